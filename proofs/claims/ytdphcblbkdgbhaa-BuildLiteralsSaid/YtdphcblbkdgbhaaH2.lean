import Derived.Test.YtdphcblbkdgbhaaH1
namespace Go.Proofs.Ytdphcblbkdgbhaa
open Go.RowKit
/-- no earlier rule has this name. -/
def newName (l : List Rl) (n : ByteArray) : Bool := l.all fun r => decide (r.name ≠ n)
/-- the names of rules are names, and no two are the same. -/
def namesTo (l : List Rl) : Nat → Bool
  | 0 => true
  | k + 1 => namesTo l k && (match l[k]? with | none => true | some r => nameB r.name && newName (l.take k) r.name)
theorem namesTo_mono {l : List Rl} : ∀ {k n : Nat}, k ≤ n → namesTo l k = false → namesTo l n = false
  | k, 0, h, h1 => by obtain rfl : k = 0 := by omega
                      exact h1
  | k, n + 1, h, h1 => by
    by_cases e : k = n + 1
    · exact e ▸ h1
    · simp only [namesTo, namesTo_mono (show k ≤ n by omega) h1, Bool.false_and]
def namesB (l : List Rl) : Bool := namesTo l l.length
def allMade (g : Gr) : Bool := g.nodes.all fun x => madeB x g.rules.length
def depthsTo (nodes : List Nd) : Nat → Bool
  | 0 => true
  | k + 1 => depthsTo nodes k && decide (depF nodes 205 k ≤ 200)
theorem depthsTo_mono {l : List Nd} : ∀ {k n : Nat}, k ≤ n → depthsTo l k = false → depthsTo l n = false
  | k, 0, h, h1 => by obtain rfl : k = 0 := by omega
                      exact h1
  | k, n + 1, h, h1 => by
    by_cases e : k = n + 1
    · exact e ▸ h1
    · simp only [depthsTo, depthsTo_mono (show k ≤ n by omega) h1, Bool.false_and]
/-- is a grammar valid. -/
def validB (g : Gr) : Bool :=
  decide (g.rules.length ≤ 1000) && (decide (g.nodes.length ≤ 10000) && (decide (g.rules.length ≠ 0) && (namesB g.rules && (allMade g && (orderedB g && depthsTo g.nodes g.nodes.length)))))
def smallB (g : Gr) : Bool := fewB g && validB g
/-- what Check returns: an error, or none. -/
def ChkRet (g : Gr) (w : World) (e : Ending) (w' : World) : Prop :=
  ∃ (s : ByteArray) (c i : Int), e = .returned (.tuple #[.string s, .int .i64 c, .int .i64 i]) ∧ (c = 0 ↔ validB g = true) ∧ Below w.heap.size w w'
theorem chk_bad {g : Gr} {w w' : World} {s : ByteArray} {c i : Int} (h : validB g = false) (hc : c ≠ 0) (hb : Below w.heap.size w w') : ChkRet g w (.returned (.tuple #[.string s, .int .i64 c, .int .i64 i])) w' :=
  ⟨s, c, i, rfl, by rw [h]; simp [hc], hb⟩
theorem chk_ok {g : Gr} {w w' : World} {s : ByteArray} {i : Int} (h : validB g = true) (hb : Below w.heap.size w w') : ChkRet g w (.returned (.tuple #[.string s, .int .i64 0, .int .i64 i])) w' :=
  ⟨s, 0, i, rfl, by rw [h]; simp, hb⟩
theorem newName_no {l : List Rl} {k m : Nat} {n : ByteArray} (h : m < k) (hk : k ≤ l.length) (hn : (l[m]'(by omega)).name = n) : newName (l.take k) n = false :=
  all_no (k := m) (by simp; omega) (by simp [hn])
set_option maxRecDepth 20000 in
set_option maxHeartbeats 6400000 in
theorem check_any (g : Gr) (ra na : Option Addr) (rc nc : Nat) (w : World) (hF : fewB g = true) (R : RlsAt w ra g.rules) (N : NdsAt w na g.nodes) :
    Calls Try.prog 34 #[.agg #[.slice ra g.rules.length rc, .slice na g.nodes.length nc]] w (ChkRet g w) := by
  have hF2 := hF
  unfold fewB at hF2
  simp only [Bool.and_eq_true, decide_eq_true_eq] at hF2
  obtain ⟨f0, f1, f2, f3⟩ := hF2
  have F0 := Lib.hid (show ∀ x ∈ g.rules, x.name.size ≤ 100 by unfold rulesFew at f0; simpa using f0)
  have F1 := Lib.hid (show ∀ x ∈ g.nodes, x.kids.length ≤ 60 by unfold nodesFew at f1; simpa using f1)
  have F2 := Lib.hid (show ∀ x ∈ g.nodes, x.kids.length ≤ 140737488355328 from fun x hx => Nat.le_trans (F1.out x hx) (by decide))
  have hV : Hid (validB g = (decide (g.rules.length ≤ 1000) && (decide (g.nodes.length ≤ 10000) && (decide (g.rules.length ≠ 0) && (namesB g.rules && (allMade g && (orderedB g && depthsTo g.nodes g.nodes.length))))))) := rfl
  have HB0 : Hid (Below w.heap.size w (w.alloc (.cells #[.slice ra g.rules.length rc, .slice na g.nodes.length nc] 36))) := (Below.refl _ _).alloc (Nat.le_refl _) _
  clear f0 f1 hF
  by_cases z : g.rules.length = 0
  · have HV : Hid (validB g = false) := by show _ = _; rw [hV.out, z]; simp
    have z' : ((g.rules.length : Int) == 0) = true := by rw [beq_iff_eq]; omega
    clear z
    go_enter Try.func34, Try.ntmps34
    go_wp2
    go_ret3
    exact chk_bad HV.out (by decide) HB0.out
  · have z1 : ((g.rules.length : Int) == 0) = false := by rw [beq_eq_false_iff_ne]; omega
    have Z := Lib.hid z
    clear z
    go_enter Try.func34, Try.ntmps34
    go_wp2
    clear z1
    go_loopw [5, 6] (fun j _ wr => ∃ (k : Nat), k ≤ g.rules.length ∧ j = .int .i64 k ∧ Hid (namesTo g.rules k = true) ∧ wr.cell? ⟨w.heap.size, 0, none⟩ = some (.slice ra g.rules.length rc) ∧ wr.cell? ⟨w.heap.size, 1, none⟩ = some (.slice na g.nodes.length nc) ∧ Hid (Below w.heap.size w wr)) (fun j _ _ => g.rules.length - (intOf j).toNat)
    case atStart => exact ⟨0, by omega, rfl, rfl, by go_simp, by go_simp, HB0⟩
    case round =>
      obtain ⟨k, hk, rfl, HM, v0, v1, HB⟩ := hrel
      by_cases hlt : k < g.rules.length
      · obtain ⟨b, off, rfl, hz1, g0, g1⟩ := R.get HB k hlt
        have hnm := F0.out _ (List.getElem_mem hlt)
        have C := Lib.hid (name_any g.rules[k].name (by omega))
        cases hq : nameB g.rules[k].name
        · have HV : Hid (validB g = false) := by
            show _ = _
            have : namesB g.rules = false := namesTo_mono (k := k + 1) (by omega) (by simp only [namesTo, List.getElem?_eq_getElem hlt, hq, Bool.false_and, Bool.and_false])
            rw [hV.out, this]; simp
          rw [hq] at C
          clear hq
          go_wp2_with (fail)
          refine (C.out _).mono ?_
          rintro e w' ⟨rfl, rfl⟩
          go_wp2
          go_ret3
          exact chk_bad HV.out (by decide) HB.out
        · rw [hq] at C
          have HQ := Lib.hid hq
          clear hq
          go_wp2_with (fail)
          refine (C.out _).mono ?_
          rintro e w' ⟨rfl, rfl⟩
          go_wp2_with (fail)
          obtain ⟨wo, rfl⟩ : ∃ wo : World, wo = w' := ⟨_, rfl⟩
          go_loopw [6] (fun j wi => ∃ (m : Nat), m ≤ k ∧ j = .int .i64 m ∧ Hid (newName (g.rules.take m) g.rules[k].name = true) ∧ wi.cell? ⟨w.heap.size, 0, none⟩ = some (.slice (some ⟨b, off, none⟩) g.rules.length rc) ∧ wi.cell? ⟨w.heap.size, 1, none⟩ = some (.slice na g.nodes.length nc) ∧ Hid (Below w.heap.size w wi)) (fun j _ => k - (intOf j).toNat)
          case atStart => exact ⟨0, by omega, rfl, rfl, v0, v1, HB⟩
          case round =>
            obtain ⟨m, hm, rfl, HN, v0, v1, HB⟩ := hrel
            by_cases hml : m < k
            · obtain ⟨b', off', ee, hz2, g0, g1⟩ := R.get HB m (by omega)
              cases ee
              obtain ⟨b', off', ee, hz3, g2, g3⟩ := R.get HB k (by omega)
              cases ee
              by_cases hq : g.rules[m].name = g.rules[k].name
              · have HV : Hid (validB g = false) := by
                  show _ = _
                  have : namesB g.rules = false := namesTo_mono (k := k + 1) (by omega) (by simp only [namesTo, List.getElem?_eq_getElem hlt, newName_no hml (by omega) hq, Bool.and_false])
                  rw [hV.out, this]; simp
                rw [hq] at g0
                clear hq
                go_wp2_with (fail)
                go_quiet (fail)
                go_wp2
                go_ret3
                exact chk_bad HV.out (by decide) (below_drewN HB.out _)
              · have HN2 : Hid (newName (g.rules.take (m + 1)) g.rules[k].name = true) := all_take (show m < g.rules.length by omega) (by simpa using hq) HN.out
                have dq : (g.rules[m].name.toList == g.rules[k].name.toList) = false := by rw [bytes_beq]; simpa using hq
                clear hq
                go_wp2_with (fail)
                go_quiet (fail)
                go_wp2
                go_roundw
                case rel => exact ⟨m + 1, by omega, by go_num, HN2, by go_simp, by go_simp, below_drewN HB.out _⟩
                case measure => simp [intOf]; omega
            · obtain rfl : m = k := by omega
              have HM2 : Hid (namesTo g.rules (m + 1) = true) := by
                show _ = _
                simp only [namesTo, List.getElem?_eq_getElem hlt, HQ.out, HN.out, HM.out, Bool.and_true]
              go_wp2
              go_roundw
              case rel => exact ⟨m + 1, by omega, by go_num, HM2, v0, v1, HB⟩
              case measure => simp [intOf]; omega
      · obtain rfl : k = g.rules.length := by omega
        have HNM : Hid (namesB g.rules = true) := HM.out
        go_wp2
        go_loopw [7] (fun j wr => ∃ (k : Nat), k ≤ g.nodes.length ∧ j = .int .i64 k ∧ Hid ((g.nodes.take k).all (fun x => madeB x g.rules.length) = true) ∧ wr.cell? ⟨w.heap.size, 0, none⟩ = some (.slice ra g.rules.length rc) ∧ wr.cell? ⟨w.heap.size, 1, none⟩ = some (.slice na g.nodes.length nc) ∧ Hid (Below w.heap.size w wr)) (fun j _ => g.nodes.length - (intOf j).toNat)
        case atStart => exact ⟨0, by omega, rfl, rfl, v0, v1, HB⟩
        case round =>
          obtain ⟨k, hk, rfl, HA, v0, v1, HB⟩ := hrel
          by_cases hlt : k < g.nodes.length
          · obtain ⟨b, off, ka, kc, rfl, hz1, g0, g1, g2, g3, g4, g5, g6, H7⟩ := N.get HB k hlt
            have hkl := F1.out _ (List.getElem_mem hlt)
            have C := Lib.hid (fun W => made_any g.nodes[k] g.rules.length ka kc W (by omega) (by omega))
            have hA1 := Lib.hid (fun hq => all_take (l := g.nodes) (p := fun x => madeB x g.rules.length) hlt hq HA.out)
            have hA2 := Lib.hid (fun hq => all_no (l := g.nodes) (p := fun x => madeB x g.rules.length) hlt hq)
            generalize hq : madeB g.nodes[k] g.rules.length = q at *
            clear HA
            go_wp2_with (fail)
            have x0 := fun e => ext_cell v0 e
            have x1 := fun e => ext_cell v1 e
            have y0 := fun e => ext_cell g0 e
            have y1 := fun e => ext_cell g1 e
            have y2 := fun e => ext_cell g2 e
            have y3 := fun e => ext_cell g3 e
            have y4 := fun e => ext_cell g4 e
            have y5 := fun e => ext_cell g5 e
            have y6 := fun e => ext_cell g6 e
            refine wp_region_ext (by kernel_rfl) (by kernel_rfl) ?_
            repeat (go_big_quiet_step (with_reducible rfl))
            go_big_quiet_step (exact ext_call (C.out _))
            repeat (go_big_quiet_step (with_reducible rfl))
            refine wpQuiet_nil ?_
            rintro w2 ⟨⟨w2, hb⟩, rfl⟩
            have B2 := Lib.hid (HB.out.trans (hb.mono HB.out.size))
            have u0 := cell_keep hb v0
            have u1 := cell_keep hb v1
            clear x0 x1 y0 y1 y2 y3 y4 y5 y6 hb
            cases q
            · have HV : Hid (validB g = false) := by
                show _ = _
                have : allMade g = false := hA2.out rfl
                rw [hV.out, this]; simp
              clear hq
              go_wp2
              go_ret3
              exact chk_bad HV.out (by decide) B2.out
            · have HA := Lib.hid (hA1.out rfl)
              clear hq
              go_wp2
              go_roundw
              case rel => exact ⟨k + 1, by omega, by go_num, HA, u0, u1, B2⟩
              case measure => simp [intOf]; omega
          · obtain rfl : k = g.nodes.length := by omega
            have HA2 : Hid (allMade g = true) := by
              have := HA.out
              rw [List.take_length] at this; exact this
            have O := Lib.hid (fun W h1 h2 => ordered_any g ra na rc nc W (by omega) (by omega) F2.out h1 h2)
            have RB := Lib.hid (R.below HB.out)
            have NB := Lib.hid (N.below HB.out)
            cases hq : orderedB g
            · have HV : Hid (validB g = false) := by
                show _ = _
                rw [hV.out, hq]; simp
              rw [hq] at O
              clear hq
              go_wp2_with (fail)
              refine (O.out _ RB.out NB.out).mono ?_
              rintro e w2 ⟨rfl, hb⟩
              have B2 := Lib.hid (HB.out.trans (hb.mono HB.out.size))
              clear hb
              go_wp2
              go_ret3
              exact chk_bad HV.out (by decide) B2.out
            · have HOr := Lib.hid hq
              have HKO := Lib.hid (ordered_kids hq)
              rw [hq] at O
              clear hq
              go_wp2_with (fail)
              refine (O.out _ RB.out NB.out).mono ?_
              rintro e w2 ⟨rfl, hb⟩
              have B2 := Lib.hid (HB.out.trans (hb.mono HB.out.size))
              have u0 := cell_keep hb v0
              have u1 := cell_keep hb v1
              clear hb v0 v1 HB RB NB
              go_wp2
              go_loopw [8] (fun j wr => ∃ (k : Nat), k ≤ g.nodes.length ∧ j = .int .i64 k ∧ Hid (depthsTo g.nodes k = true) ∧ wr.cell? ⟨w.heap.size, 0, none⟩ = some (.slice ra g.rules.length rc) ∧ wr.cell? ⟨w.heap.size, 1, none⟩ = some (.slice na g.nodes.length nc) ∧ Hid (Below w.heap.size w wr)) (fun j _ => g.nodes.length - (intOf j).toNat)
              case atStart => exact ⟨0, by omega, rfl, rfl, u0, u1, B2⟩
              case round =>
                obtain ⟨k, hk, rfl, HD, v0, v1, HB⟩ := hrel
                by_cases hlt : k < g.nodes.length
                · have C := Lib.hid (depth_any g.nodes ra g.rules.length rc na nc (by omega) F2.out HKO.out 205 k wr (by decide) hlt (N.below HB.out))
                  have hbd := depF_bd g.nodes 205 k
                  have hD1 := Lib.hid (fun hq => show depthsTo g.nodes (k + 1) = true by simp only [depthsTo, HD.out, Bool.true_and]; exact decide_eq_true hq)
                  have hD2 := Lib.hid (fun (hq : ¬ depF g.nodes 205 k ≤ 200) => depthsTo_mono (l := g.nodes) (k := k + 1) (n := g.nodes.length) (by omega) (by simp only [depthsTo, decide_eq_false hq, Bool.and_false]))
                  generalize depF g.nodes 205 k = d at *
                  by_cases hd : d ≤ 200
                  · have HD := Lib.hid (hD1.out hd)
                    go_wp2_with (fail)
                    refine (C.out).mono ?_
                    rintro e w3 ⟨rfl, hb⟩
                    have B2 := Lib.hid (HB.out.trans (hb.mono HB.out.size))
                    have u0 := cell_keep hb v0
                    have u1 := cell_keep hb v1
                    clear hb
                    go_wp2
                    go_roundw
                    case rel => exact ⟨k + 1, by omega, by go_num, HD, u0, u1, B2⟩
                    case measure => simp [intOf]; omega
                  · have HV : Hid (validB g = false) := by
                      show _ = _
                      rw [hV.out, hD2.out hd]; simp
                    have hd' : 200 < d := by omega
                    clear hd
                    go_wp2_with (fail)
                    refine (C.out).mono ?_
                    rintro e w3 ⟨rfl, hb⟩
                    have B2 := Lib.hid (HB.out.trans (hb.mono HB.out.size))
                    clear hb
                    go_wp2
                    go_ret3
                    exact chk_bad HV.out (by decide) B2.out
                · obtain rfl : k = g.nodes.length := by omega
                  have HV : Hid (validB g = true) := by
                    show _ = _
                    rw [hV.out, HD.out, HOr.out, HA2.out, HNM.out]
                    simp only [Bool.and_true, Bool.and_eq_true, decide_eq_true_eq]
                    exact ⟨by omega, by omega, Z.out⟩
                  go_wp2
                  go_ret3
                  exact chk_ok HV.out HB.out
end Go.Proofs.Ytdphcblbkdgbhaa
