import Derived.Test.YtdphcblbkdgbhaaM1
namespace Go.Proofs.Ytdphcblbkdgbhaa
open Go.RowKit
/-- an item of a list in prefix order. -/
structure It where
  op : Int
  kids : Int
  rule : Int
  set : W4
  deriving DecidableEq
def ItAt (w : World) (b o : Nat) (x : It) : Prop :=
  w.cell? ⟨b, o, none⟩ = some (.int .i64 x.op) ∧ w.cell? ⟨b, o + 1, none⟩ = some (.int .i64 x.kids) ∧ w.cell? ⟨b, o + 2, none⟩ = some (.int .i64 x.rule) ∧
    w.cell? ⟨b, o + 3, none⟩ = some (.int .u64 x.set.a) ∧ w.cell? ⟨b, o + 4, none⟩ = some (.int .u64 x.set.b) ∧ w.cell? ⟨b, o + 5, none⟩ = some (.int .u64 x.set.c) ∧ w.cell? ⟨b, o + 6, none⟩ = some (.int .u64 x.set.d)
/-- a slice value that reads as items. -/
def ItsAt (w : World) (a : Option Addr) (l : List It) : Prop :=
  ∀ j (h : j < l.length), ∃ b off, a = some ⟨b, off, none⟩ ∧ ItAt w b (off + j * 7) l[j]
theorem ItAt.below {w w' : World} {b o : Nat} {x : It} (h : ItAt w b o x) (hb : Below w.heap.size w w') : ItAt w' b o x :=
  ⟨cell_keep hb h.1, cell_keep hb h.2.1, cell_keep hb h.2.2.1, cell_keep hb h.2.2.2.1, cell_keep hb h.2.2.2.2.1, cell_keep hb h.2.2.2.2.2.1, cell_keep hb h.2.2.2.2.2.2⟩
theorem ItsAt.below {w w' : World} {a : Option Addr} {l : List It} (h : ItsAt w a l) (hb : Below w.heap.size w w') : ItsAt w' a l := fun j hj => by
  obtain ⟨b, off, e, hc⟩ := h j hj
  exact ⟨b, off, e, hc.below hb⟩
/-- the stack machine of build.add: what is popped. The top is the head. -/
def pops (ns : List Nd) : List (Nd × Int) → List Nd × List (Nd × Int)
  | [] => (ns, [])
  | (x, m) :: [] => if (x.kids.length : Int) < m then (ns, [(x, m)]) else (ns ++ [x], [])
  | (x, m) :: (y, k) :: r => if (x.kids.length : Int) < m then (ns, (x, m) :: (y, k) :: r) else pops (ns ++ [x]) (({ y with kids := y.kids ++ [(ns.length : Int)] }, k) :: r)
termination_by l => l.length
/-- build.add: the nodes, and whether the items are one expression. -/
def addL (first : Bool) (ns : List Nd) (st : List (Nd × Int)) : List It → List Nd × Bool
  | [] => (ns, st.isEmpty && !first)
  | it :: l => if it.kids < 0 ∨ (first = false ∧ st = []) then (ns, false) else
    addL false (pops ns ((⟨it.op, [], it.rule, it.set⟩, it.kids) :: st)).1 (pops ns ((⟨it.op, [], it.rule, it.set⟩, it.kids) :: st)).2 l
def stk (l : List St) : List (Nd × Int) := l.map fun s => (s.x.nd, s.need)
/-- two rows of other types share no block. -/
theorem own_apart {w : World} {b1 b2 : Nat} {e1 e2 : TypeId} {s1 s2 n1 n2 : Nat} {v1 v2 : Value} {x1 x2 : List Value} (h1 : w.ownsRow b1 e1 s1 v1 n1 x1) (h2 : w.ownsRow b2 e2 s2 v2 n2 x2) (hne : e1 ≠ e2) (b : Nat) (hb : v1.ownBlock = some b) : v2.ownBlock ≠ some b := by
  intro e
  rcases h2.2 with ⟨q, _⟩ | ⟨g, cap, cur, q, _, hh, _⟩
  · rw [q] at e; simp [Value.ownBlock] at e
  · rw [q] at e
    have : g = b := by simpa [Value.ownBlock] using e
    subst this
    exact own_ne_blk h1 hh hne hb
/-- a slice cut short. -/
theorem own_short {w : World} {base : Nat} {e : TypeId} {size n m c : Nat} {a : Option Addr} {xs : List Value} (h : w.ownsRow base e size (.slice a n c) n xs) (hm : m ≤ n) : w.ownsRow base e size (.slice a m c) m (xs.take (m * size)) := by
  have hms : m * size ≤ n * size := Nat.mul_le_mul_right _ hm
  refine ⟨by rw [List.length_take, h.1]; omega, ?_⟩
  rcases h.2 with ⟨q, h0⟩ | ⟨g, cap, cur, q, h1, h2, h3, h4, h5, h6⟩
  · cases q; exact .inl ⟨by rw [Nat.le_zero.1 hm], Nat.le_zero.1 hm⟩
  · cases q
    exact .inr ⟨g, c, cur, rfl, h1, h2, by omega, h4, h5, by rw [← h6, List.take_take, Nat.min_eq_left hms]⟩
/-- where build.add stands: w0: the world at the start of what is own; w: add's own start. -/
structure AddS (w0 w wr : World) (gb : Nat) (rv : Value) (row0 : Option Nat) (xN : Option Addr) (cN : Nat) (xS : Option Addr) (cS : Nat) (ln : List NdA) (ls : List St) : Prop where
  hp : wr.heap[w.heap.size]? = some (.cells #[.pointer (some ⟨gb, 1, none⟩)] 68 (0, 0))
  hg : wr.heap[gb]? = some (.cells #[rv, .slice xN ln.length cN] 36 (0, 0))
  hN : wr.ownsRow w0.heap.size 55 7 (.slice xN ln.length cN) ln.length (rowNd ln)
  hS : wr.ownsRow w.heap.size 85 8 (.slice xS ls.length cS) ls.length (rowSt ls.reverse)
  hk : ∀ y ∈ ln, KidO wr w0.heap.size y
  hs : ∀ s ∈ ls, KidO wr w.heap.size s.x
  hd : (ln ++ ls.map St.x).Pairwise KDis
  hl : ∀ s ∈ ls, s.x.nd.kids.length ≤ ln.length
  hB : Below w0.heap.size w0 wr
  hz : w.heap.size < wr.heap.size
  hgb : w0.heap.size ≤ gb ∧ gb < w.heap.size
  hw : w0.heap.size ≤ w.heap.size
  hf : ∀ b, b < w.heap.size → b ≠ gb → row0 ≠ some b → wr.heap[b]? = w.heap[b]?
  hr : blk xN = row0 ∨ ∃ q, blk xN = some q ∧ w.heap.size ≤ q
section
variable {w0 w wr wf : World} {gb : Nat} {rv : Value} {row0 : Option Nat} {xN : Option Addr} {cN : Nat} {xS : Option Addr} {cS : Nat} {ln : List NdA} {ls : List St}
theorem AddS.alloc (H : AddS w0 w wr gb rv row0 xN cN xS cS ln ls) (o : Obj) : AddS w0 w (wr.alloc o) gb rv row0 xN cN xS cS ln ls := by
  have hgl := (Array.getElem?_eq_some_iff.1 H.hg).1
  have hpl := (Array.getElem?_eq_some_iff.1 H.hp).1
  exact ⟨(Below.heap_alloc _ _ _ hpl).trans H.hp, (Below.heap_alloc _ _ _ hgl).trans H.hg, own_alloc H.hN o, own_alloc H.hS o, fun y hy => own_alloc (H.hk y hy) o, fun s hs => own_alloc (H.hs s hs) o, H.hd, H.hl, H.hB.alloc (by have := H.hw; have := H.hz; omega) o, by simp; have := H.hz; omega, H.hgb, H.hw,
    fun b h1 h2 h3 => (Below.heap_alloc _ _ _ (by have := H.hz; omega)).trans (H.hf b h1 h2 h3), H.hr⟩
/-- one more on the stack. -/
theorem AddS.push (H : AddS w0 w wr gb rv row0 xN cN xS cS ln ls) (nd : Nd) (need : Int) (hk0 : nd.kids = []) {xS' : Option Addr} {cS' : Nat}
    (hK : ∀ b, b < wr.heap.size → blk xS ≠ some b → wf.heap[b]? = wr.heap[b]?) (hz : wr.heap.size ≤ wf.heap.size) (hB : Below w0.heap.size w0 wf)
    (ho : wf.ownsRow w.heap.size 85 8 (.slice xS' (ls.length + 1) cS') (ls.length + 1) (rowSt (ls.reverse ++ [⟨⟨nd, none, 0⟩, need⟩]))) :
    AddS w0 w wf gb rv row0 xN cN xS' cS' ln (⟨⟨nd, none, 0⟩, need⟩ :: ls) := by
  have hgl := (Array.getElem?_eq_some_iff.1 H.hg).1
  have hpl := (Array.getElem?_eq_some_iff.1 H.hp).1
  have nS : ∀ {b : Nat} {cs : Array Value} {t : TypeId}, wr.heap[b]? = some (.cells cs t (0, 0)) → 85 ≠ t → blk xS ≠ some b := fun h ht => by
    have := own_ne_blk H.hS h ht
    rwa [blk_own] at this
  have nR : ∀ {b1 : Nat} {e1 : TypeId} {s1 n1 : Nat} {v1 : Value} {x1 : List Value}, wr.ownsRow b1 e1 s1 v1 n1 x1 → e1 ≠ 85 → wf.ownsRow b1 e1 s1 v1 n1 x1 := fun h he =>
    own_of_heap h fun b hb hv => hK b hb (by have := own_apart h H.hS he b hv; rwa [blk_own] at this)
  refine ⟨(hK _ hpl (nS H.hp (by decide))).trans H.hp, (hK _ hgl (nS H.hg (by decide))).trans H.hg, nR H.hN (by decide), by rw [List.reverse_cons]; exact ho, fun y hy => nR (H.hk y hy) (by decide), ?_, ?_, ?_, hB, by have := H.hz; omega, H.hgb, H.hw, ?_, H.hr⟩
  · intro s hs
    rcases List.mem_cons.1 hs with rfl | hs
    · show wf.ownsRow _ _ _ (.slice none nd.kids.length 0) nd.kids.length (intsV nd.kids)
      rw [hk0]; exact own_nil _ _ _ _
    · exact nR (H.hs s hs) (by decide)
  · have hd := H.hd
    rw [List.pairwise_append] at hd
    rw [List.map_cons, List.pairwise_append, List.pairwise_cons]
    refine ⟨hd.1, ⟨fun y _ => .inl rfl, hd.2.1⟩, fun y hy z hz => ?_⟩
    rcases List.mem_cons.1 hz with rfl | hz
    · by_cases h : blk y.a = none
      · exact .inl h
      · exact .inr h
    · exact hd.2.2 y hy z hz
  · intro s hs
    rcases List.mem_cons.1 hs with rfl | hs
    · simp [hk0]
    · exact H.hl s hs
  · intro b h1 h2 h3
    refine (hK b (by have := H.hz; omega) (fun e => ?_)).trans (H.hf b h1 h2 h3)
    have := own_blk_lt H.hS b (by rw [blk_own]; exact e)
    omega
/-- the top is a node now. -/
theorem AddS.put {s : St} (H : AddS w0 w wr gb rv row0 xN cN xS cS ln (s :: ls)) (hP : Puts w0 wr gb rv xN cN ln s.x wf) :
    ∃ xN' cN', AddS w0 w wf gb rv row0 xN' cN' xS cS (ln ++ [s.x]) ls := by
  obtain ⟨xN', cN', q1, q2, q3, q4, q5, q6⟩ := hP
  rw [blk_own, blk_own] at q6
  have hgl := (Array.getElem?_eq_some_iff.1 H.hg).1
  have hpl := (Array.getElem?_eq_some_iff.1 H.hp).1
  have hpg : w.heap.size ≠ gb := by have := H.hgb; omega
  have hS1 := own_short (m := ls.length) H.hS (by simp)
  have hS2 : (rowSt (s :: ls).reverse).take (ls.length * 8) = rowSt ls.reverse := by
    rw [List.reverse_cons, ← rowSt_snoc, List.take_append_of_le_length (by rw [rowSt_len]; simp), List.take_of_length_le (by rw [rowSt_len]; simp)]
  rw [hS2] at hS1
  have nR : ∀ {b1 : Nat} {e1 : TypeId} {s1 n1 : Nat} {v1 : Value} {x1 : List Value}, wr.ownsRow b1 e1 s1 v1 n1 x1 → e1 ≠ 55 → e1 ≠ 36 → wf.ownsRow b1 e1 s1 v1 n1 x1 := fun h he hg =>
    own_of_heap h fun b hb hv => q3 b hb (fun e => own_ne_blk h H.hg hg (by rw [hv, e])) (own_apart h H.hN he b hv)
  refine ⟨xN', cN', (q3 _ hpl hpg (own_ne_blk H.hN H.hp (by decide))).trans H.hp, by rw [List.length_append]; exact q1, by rw [List.length_append]; exact q2, nR hS1 (by decide) (by decide), ?_, fun z hz => nR (H.hs z (List.mem_cons_of_mem _ hz)) (by decide) (by decide), ?_, ?_, q4, by have := H.hz; omega, H.hgb, H.hw, ?_, ?_⟩
  · intro y hy
    rcases List.mem_append.1 hy with h | h
    · exact nR (H.hk y h) (by decide) (by decide)
    · rw [List.mem_singleton.1 h]
      exact nR (own_mono (H.hs s (by simp)) H.hw) (by decide) (by decide)
  · have hd := H.hd
    rw [List.map_cons] at hd
    rw [List.append_assoc]; exact hd
  · intro z hz
    have := H.hl z (List.mem_cons_of_mem _ hz)
    rw [List.length_append]; omega
  · intro b h1 h2 h3
    refine (q3 b (by have := H.hz; omega) h2 (fun e => ?_)).trans (H.hf b h1 h2 h3)
    rw [blk_own] at e
    rcases H.hr with h | ⟨q, h, hq⟩
    · exact h3 (by rw [← h, e])
    · rw [h] at e; injection e with e; omega
  · rcases q6 with h | ⟨q, h, hq⟩
    · rw [h]; exact H.hr
    · exact .inr ⟨q, h, by have := H.hz; omega⟩
/-- one more kid at the top. -/
theorem AddS.up {s : St} (H : AddS w0 w wr gb rv row0 xN cN xS cS ln (s :: ls)) (i : Int) {a' : Option Addr} {c' : Nat} (hln : s.x.nd.kids.length < ln.length)
    (hK : ∀ b, b < wr.heap.size → blk xS ≠ some b → blk s.x.a ≠ some b → wf.heap[b]? = wr.heap[b]?) (hz : wr.heap.size ≤ wf.heap.size) (hB : Below w0.heap.size w0 wf)
    (hS : wf.ownsRow w.heap.size 85 8 (.slice xS (ls.length + 1) cS) (ls.length + 1) (rowSt (ls.reverse ++ [⟨⟨{ s.x.nd with kids := s.x.nd.kids ++ [i] }, a', c'⟩, s.need⟩])))
    (hk : KidO wf w.heap.size ⟨{ s.x.nd with kids := s.x.nd.kids ++ [i] }, a', c'⟩) (hat : blk a' = blk s.x.a ∨ ∃ q, blk a' = some q ∧ wr.heap.size ≤ q) :
    AddS w0 w wf gb rv row0 xN cN xS cS ln (⟨⟨{ s.x.nd with kids := s.x.nd.kids ++ [i] }, a', c'⟩, s.need⟩ :: ls) := by
  have hgl := (Array.getElem?_eq_some_iff.1 H.hg).1
  have hpl := (Array.getElem?_eq_some_iff.1 H.hp).1
  have hks := H.hs s (by simp)
  have nS : ∀ {b : Nat} {cs : Array Value} {t : TypeId}, wr.heap[b]? = some (.cells cs t (0, 0)) → 85 ≠ t → 3 ≠ t → wf.heap[b]? = wr.heap[b]? := fun {b} _ _ h ht hi => by
    refine hK b (Array.getElem?_eq_some_iff.1 h).1 ?_ (kid_ne hks h hi)
    have := own_ne_blk H.hS h ht
    rwa [blk_own] at this
  have nR : ∀ {b1 : Nat} {e1 : TypeId} {s1 n1 : Nat} {v1 : Value} {x1 : List Value}, wr.ownsRow b1 e1 s1 v1 n1 x1 → e1 ≠ 85 → (∀ b, v1.ownBlock = some b → blk s.x.a ≠ some b) → wf.ownsRow b1 e1 s1 v1 n1 x1 := fun h he hi =>
    own_of_heap h fun b hb hv => hK b hb (by have := own_apart h H.hS he b hv; rwa [blk_own] at this) (hi b hv)
  have nI : ∀ {b1 : Nat} {e1 : TypeId} {s1 n1 : Nat} {v1 : Value} {x1 : List Value}, wr.ownsRow b1 e1 s1 v1 n1 x1 → e1 ≠ 3 → ∀ b, v1.ownBlock = some b → blk s.x.a ≠ some b := fun h he b hv => by
    have := own_apart h hks he b hv
    rwa [blk_own] at this
  have hd := H.hd
  rw [List.map_cons, List.pairwise_append, List.pairwise_cons] at hd
  obtain ⟨d1, ⟨d2, d3⟩, d4⟩ := hd
  have hsb : ∀ b, blk s.x.a = some b → b < wr.heap.size := fun b hb => (own_blk_lt hks b (by rw [blk_own]; exact hb)).2
  refine ⟨(nS H.hp (by decide) (by decide)).trans H.hp, (nS H.hg (by decide) (by decide)).trans H.hg, nR H.hN (by decide) (nI H.hN (by decide)), by rw [List.reverse_cons]; exact hS, ?_, ?_, ?_, ?_, hB, by have := H.hz; omega, H.hgb, H.hw, ?_, H.hr⟩
  · intro y hy
    refine nR (H.hk y hy) (by decide) fun b hv e => ?_
    rw [blk_own] at hv
    rcases d4 y hy s.x (by simp) with h | h
    · rw [h] at hv; cases hv
    · exact h (by rw [hv, e])
  · intro z hz
    rcases List.mem_cons.1 hz with rfl | hz
    · exact hk
    · refine nR (H.hs z (List.mem_cons_of_mem _ hz)) (by decide) fun b hv e => ?_
      rw [blk_own] at hv
      rcases d2 z.x (List.mem_map_of_mem hz) with h | h
      · rw [h] at e; cases e
      · exact h (by rw [hv, e])
  · rw [List.map_cons, List.pairwise_append, List.pairwise_cons]
    refine ⟨d1, ⟨fun z hz => ?_, d3⟩, fun y hy z hz => ?_⟩
    · obtain ⟨zs, hzs, rfl⟩ := List.mem_map.1 hz
      rcases hat with h | ⟨q, h, hq⟩
      · rcases d2 zs.x hz with h2 | h2
        · exact .inl (by show blk a' = none; rw [h, h2])
        · exact .inr (by show blk a' ≠ _; rw [h]; exact h2)
      · right
        show blk a' ≠ _
        rw [h]; intro e
        have := (own_blk_lt (H.hs zs (List.mem_cons_of_mem _ hzs)) q (by rw [blk_own]; exact e.symm)).2
        omega
    · rcases List.mem_cons.1 hz with rfl | hz
      · rcases hat with h | ⟨q, h, hq⟩
        · rcases d4 y hy s.x (by simp) with h2 | h2
          · exact .inl h2
          · exact .inr (by show _ ≠ blk a'; rw [h]; exact h2)
        · right
          show _ ≠ blk a'
          rw [h]; intro e
          have := (own_blk_lt (H.hk y hy) q (by rw [blk_own]; exact e)).2
          omega
      · exact d4 y hy z (List.mem_cons_of_mem _ hz)
  · intro z hz
    rcases List.mem_cons.1 hz with rfl | hz
    · simp; omega
    · exact H.hl z (List.mem_cons_of_mem _ hz)
  · intro b h1 h2 h3
    refine (hK b (by have := H.hz; omega) (fun e => ?_) (fun e => ?_)).trans (H.hf b h1 h2 h3)
    · have := own_blk_lt H.hS b (by rw [blk_own]; exact e)
      omega
    · have := own_blk_lt hks b (by rw [blk_own]; exact e)
      omega
end
end Go.Proofs.Ytdphcblbkdgbhaa
