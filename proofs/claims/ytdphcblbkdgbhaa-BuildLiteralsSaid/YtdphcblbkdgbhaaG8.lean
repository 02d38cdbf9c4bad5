import Derived.Test.YtdphcblbkdgbhaaG7
namespace Go.Proofs.Ytdphcblbkdgbhaa
open Go.RowKit
/-- a world in which all that lay in W lies as it lay. -/
structure ExtOf (W : World) where
  w : World
  ok : Below W.heap.size W w
theorem ext_call {P : Program} {W : World} {f : FuncId} {args : Array Value} {e : ExtOf W} {v : Value}
    (h : Calls P f args e.w fun en w' => en = .returned v ∧ Below e.w.heap.size e.w w') : Calls P f args e.w fun en w'' => en = .returned v ∧ ∃ e' : ExtOf W, w'' = e'.w :=
  h.mono fun _ w' ⟨he, hb⟩ => ⟨he, ⟨w', e.ok.trans (hb.mono e.ok.size)⟩, rfl⟩
theorem ext_same {P : Program} {W : World} {f : FuncId} {args : Array Value} {e : ExtOf W} {v : Value}
    (h : Calls P f args e.w fun en w' => en = .returned v ∧ w' = e.w) : Calls P f args e.w fun en w'' => en = .returned v ∧ ∃ e' : ExtOf W, w'' = e'.w :=
  h.mono fun _ w' ⟨he, hb⟩ => ⟨he, e, hb⟩
theorem wp_region_ext {P : Program} {id : Nat} {Q : Exit → Act → World → Prop} {a : Act} {w : World} {l : List Oper} (hm : P.follows .mixedOrders = true) (hB : Region.lexB .any l.toArray = true)
    (h : wpQuiet P l.toArray (fun w' => ∃ e : ExtOf w, w' = e.w) (fun a' => ∀ w', (∃ e : ExtOf w, w' = e.w) → Q .normal a' w') l a) : (Code.region id l.toArray true).wp P Q a w :=
  wp_region_quiet (C := fun w' => ∃ e : ExtOf w, w' = e.w) hm hB ⟨⟨{ w with drawn := w.drawn + 1 }, (Below.refl _ _).drew⟩, rfl⟩ (by simpa using h)
theorem ext_cell {W : World} {p : Addr} {v : Value} (h : W.cell? p = some v) (e : ExtOf W) : e.w.cell? p = some v := cell_keep e.ok h
/-- the roots of the rules, in order. -/
def ordK (f : Int → Int) (n : Nat) : List Rl → Int → Bool
  | [], b => decide (b = (n : Int) - 1)
  | r :: l, b => if r.root ≤ b ∨ (n : Int) ≤ r.root ∨ f r.root ≠ b then false else ordK f n l r.root
def orderedB (g : Gr) : Bool := ordK (expr g.nodes) g.nodes.length g.rules (-1)
theorem drop_get {α : Type} {l : List α} {k : Nat} (h : k < l.length) : l.drop k = l[k] :: l.drop (k + 1) := List.drop_eq_getElem_cons h
set_option maxRecDepth 20000 in
set_option maxHeartbeats 1600000 in
theorem ordered_any (g : Gr) (ra na : Option Addr) (rc nc : Nat) (w : World) (hr : g.rules.length ≤ 140737488355328) (hn : g.nodes.length ≤ 140737488355328) (hkk : ∀ x ∈ g.nodes, x.kids.length ≤ 140737488355328)
    (R : RlsAt w ra g.rules) (N : NdsAt w na g.nodes) :
    Calls Try.prog 44 #[.agg #[.slice ra g.rules.length rc, .slice na g.nodes.length nc]] w fun e w' => e = .returned (.bool (orderedB g)) ∧ Below w.heap.size w w' := by
  have HB0 : Hid (Below w.heap.size w (w.alloc (.cells #[.slice ra g.rules.length rc, .slice na g.nodes.length nc] 36))) := (Below.refl _ _).alloc (Nat.le_refl _) _
  have E := Lib.hid (fun n => expression_any g.nodes ra g.rules.length rc na nc hn hkk n)
  go_enter Try.func44, Try.ntmps44
  go_wp2
  go_loopw [3, 4, 5] (fun a j _ wr => ∃ (k : Nat) (x : Int), k ≤ g.rules.length ∧ j = .int .i64 k ∧ a = .int .i64 x ∧ -1 ≤ x ∧ x < g.nodes.length ∧ Hid (ordK (expr g.nodes) g.nodes.length (g.rules.drop k) x = orderedB g) ∧ wr.cell? ⟨w.heap.size, 0, none⟩ = some (.slice ra g.rules.length rc) ∧ wr.cell? ⟨w.heap.size, 1, none⟩ = some (.slice na g.nodes.length nc) ∧ Hid (Below w.heap.size w wr)) (fun _ j _ _ => g.rules.length - (intOf j).toNat)
  case atStart => exact ⟨0, -1, by omega, rfl, rfl, by omega, by omega, rfl, by go_simp, by go_simp, HB0⟩
  case round =>
    obtain ⟨k, x, hk, rfl, rfl, hx1, hx2, HO, v0, v1, HB⟩ := hrel
    by_cases hlt : k < g.rules.length
    · obtain ⟨b, off, rfl, hz1, g0, g1⟩ := R.get HB k hlt
      have hd := drop_get hlt
      rw [hd] at HO
      clear hd
      generalize hr2 : g.rules[k].root = r at *
      by_cases c0 : r ≤ x
      · have HN : Hid (false = orderedB g) := by have := HO.out; rw [ordK, if_pos (by rw [hr2]; exact .inl c0)] at this; exact this
        clear HO hr2
        go_wp2
        go_ret
        exact ⟨ret_bool HN.out, HB.out⟩
      by_cases c1 : (g.nodes.length : Int) ≤ r
      · have HN : Hid (false = orderedB g) := by have := HO.out; rw [ordK, if_pos (by rw [hr2]; exact .inr (.inl c1))] at this; exact this
        clear HO hr2
        go_wp2
        go_ret
        exact ⟨ret_bool HN.out, HB.out⟩
      have C := Lib.hid (E.out (r.toNat + 1) r wr (by omega) (by omega) (by omega) (N.below HB.out))
      by_cases c2 : expr g.nodes r = x
      · have HN : Hid (ordK (expr g.nodes) g.nodes.length (g.rules.drop (k + 1)) r = orderedB g) := by have := HO.out; rw [ordK, if_neg (by rw [hr2]; omega), hr2] at this; exact this
        rw [c2] at C
        clear HO hr2 c2
        go_wp2_with (fail)
        refine (C.out).mono ?_
        rintro e w1 ⟨rfl, hb⟩
        have B1 := Lib.hid (HB.out.trans (hb.mono HB.out.size))
        have u0 := cell_keep hb v0
        have u1 := cell_keep hb v1
        clear hb
        go_wp2
        go_roundw
        case rel => exact ⟨k + 1, r, by omega, by go_num, rfl, by omega, by omega, HN, u0, u1, B1⟩
        case measure => simp [intOf]; omega
      · have HN : Hid (false = orderedB g) := by have := HO.out; rw [ordK, if_pos (by rw [hr2]; exact .inr (.inr c2))] at this; exact this
        generalize expr g.nodes r = v at *
        have dv : ((v : Int) != x) = true := by simpa using c2
        clear HO hr2 c2
        go_wp2_with (fail)
        refine (C.out).mono ?_
        rintro e w1 ⟨rfl, hb⟩
        have B1 := Lib.hid (HB.out.trans (hb.mono HB.out.size))
        clear hb
        go_wp2
        go_ret
        exact ⟨ret_bool HN.out, B1.out⟩
    · obtain rfl : k = g.rules.length := by omega
      rw [List.drop_length] at HO
      have HN : Hid (decide (x = (g.nodes.length : Int) - 1) = orderedB g) := HO.out
      clear HO
      go_wp2
      go_ret
      refine ⟨ret_bool ?_, HB.out⟩
      rw [← HN.out, Bool.eq_iff_iff]; simp
end Go.Proofs.Ytdphcblbkdgbhaa
