/- Queues of sleepers: rows cut and cleared; the closure of Wake; IndexFunc over it. -/
import Derived.Test.YtjmnogpnjombgaaDoorKernB
import Derived.Laws.OwnMore
namespace Go.Proofs.YtjmnogpnjombgaaDoor
open Go.ChangeShapes Go.WideShapes Go.ChangeAt Go.RowKit Go.Deep
set_option linter.unusedVariables false
set_option maxRecDepth 100000
set_option linter.unusedSimpArgs false

theorem zeroCells2 (x y : Value) (n : Nat) (hx : x.oneCell' = true) (hy : y.oneCell' = true) : (Builtin.zeroCells #[x, y] n).toList.length = n * 2 ∧ ∀ v ∈ (Builtin.zeroCells #[x, y] n).toList, v.oneCell' = true := by
  constructor
  · simp [Builtin.zeroCells]
  · intro v hv
    simp only [Builtin.zeroCells, Array.toList_map, List.mem_map] at hv
    obtain ⟨i, _, rfl⟩ := hv
    show ((#[x, y] : Array Value)[i % 2]!).oneCell' = true
    rcases (by omega : i % 2 = 0 ∨ i % 2 = 1) with e | e <;> rw [e]
    · exact hx
    · exact hy
/-- 'clear' on the tail of an owned row of two-cell elements: the front is owned as it was. -/
theorem own_clear {w : World} {base g len cap : Nat} {e t : TypeId} {xs : List Value} {z : Value} {x y : Value} (h : w.ownsRow base e 2 (.slice (some ⟨g, 0, none⟩) len cap) len xs) (ht : Tryd.prog.underlying t = some (.slice e)) (hv : ∀ w, (zeroValue e).run Tryd.prog w = .ok z w)
    (hz : z.cells = #[x, y]) (hx : x.oneCell' = true) (hy : y.oneCell' = true) (i c : Nat) (hi : i < len) :
    ∃ w', (∀ ty, (Builtin.clear_ #[t] ty #[.slice (some ⟨g, i * 2, none⟩) (len - i) c]).run Tryd.prog w = .ok (.tuple #[]) w') ∧ w'.ownsRow base e 2 (.slice (some ⟨g, 0, none⟩) i cap) i (xs.take (i * 2)) ∧ w.grownBy w' (some g) := by
  obtain ⟨h1, h2⟩ := h
  rcases h2 with ⟨h', _⟩ | ⟨g', cap', cur, h', hb, hg, hnc, hcm, hcs, htake⟩
  · simp at h'
  · simp only [Value.slice.injEq, Option.some.injEq, Addr.mk.injEq, and_true, true_and] at h'
    obtain ⟨rfl, rfl⟩ := h'
    obtain ⟨zl, zone⟩ := zeroCells2 x y (len - i) hx hy
    have hblk : Blk w g e cur := hg
    obtain ⟨cs', q1, q2, q3, q4, q5⟩ := setCells_row g e (Builtin.zeroCells #[x, y] (len - i)).toList (i * 2) w cur hblk (by rw [zl, hcs]; omega)
    refine ⟨_, fun ty => ?_, ⟨by rw [List.length_take, h1]; omega, .inr ⟨g, cap, cs', rfl, hb, q1, by omega, hcm, by omega, ?_⟩⟩, q5⟩
    · have hst := run_storeCells_cells (P := Tryd.prog) g (i * 2) (Builtin.zeroCells #[x, y] (len - i)).toList 0 w (fun j hj => by rw [Nat.add_zero, hblk.cell, Array.getElem?_eq_getElem (by rw [hcs]; omega)]; rfl) (fun j hj => hblk.frozen _) zone
      simp only [Nat.add_zero] at hst
      obtain ⟨m, hm⟩ : ∃ m, len - i = m + 1 := ⟨len - i - 1, by omega⟩
      rw [hm] at hst ⊢
      simp [Builtin.clear_, run_underlying ht, hv, hz, hst]
    · apply List.ext_getElem?
      intro k
      by_cases hk : k < i * 2
      · rw [List.getElem?_take_of_lt hk, List.getElem?_take_of_lt hk, ← htake, List.getElem?_take_of_lt (by omega)]
        have := q4 k (.inl hk)
        simpa using this
      · rw [List.getElem?_eq_none (by simp; omega), List.getElem?_eq_none (by simp; omega)]

theorem flat_set (l : List Slp) (i : Nat) (x : Slp) (hi : i < l.length) : ((l.flatMap slp).set (i * 2) (.int .i64 x.1)).set (i * 2 + 1) (.int .i64 x.2) = (l.set i x).flatMap slp := by
  induction l generalizing i with
  | nil => exact absurd hi (by simp)
  | cons y l ih =>
    rcases i with _ | i
    · rfl
    · have h2 : (i + 1) * 2 = i * 2 + 2 := by omega
      rw [h2, List.flatMap_cons, List.set_cons_succ, List.flatMap_cons, ← ih i (by simpa using hi)]
      rfl

/-- How so many of those at an address are woken. -/
def wstep (addr : Int) (n : Nat) (s : List Slp × List Int) (x : Slp) : List Slp × List Int := if x.2 = addr ∧ s.2.length < n then (s.1, s.2 ++ [x.1]) else (s.1 ++ [x], s.2)
def wk (addr : Int) (n : Nat) (l : List Slp) : List Slp × List Int := l.foldl (wstep addr n) ([], [])
theorem wk_snoc (addr : Int) (n : Nat) (l : List Slp) (x : Slp) : wk addr n (l ++ [x]) = wstep addr n (wk addr n l) x := by unfold wk; rw [List.foldl_append]; rfl
theorem take_snoc {α : Type} (l : List α) (k : Nat) (d : α) (h : k < l.length) : l.take (k + 1) = l.take k ++ [l.getD k d] := by
  rw [List.take_succ_eq_append_getElem h]
  simp [List.getD_eq_getElem?_getD, List.getElem?_eq_getElem h]
theorem wk_len' (addr : Int) (n : Nat) : ∀ (l : List Slp) (s : List Slp × List Int), (l.foldl (wstep addr n) s).1.length + (l.foldl (wstep addr n) s).2.length = s.1.length + s.2.length + l.length
  | [], s => rfl
  | x :: l, s => by
    rw [List.foldl_cons, wk_len' addr n l]
    unfold wstep
    split <;> simp <;> omega
theorem wk_len (addr : Int) (n : Nat) (l : List Slp) : (wk addr n l).1.length + (wk addr n l).2.length = l.length := by
  have := wk_len' addr n l ([], [])
  simpa [wk] using this

/-- The boxes of a call of Wake: the address, the number, the row of those woken. -/
structure O (w : World) (ab nb ob b0 : Nat) (addr : Int) (n : Nat) (ov : Value) (outs : List Int) : Prop where
  a : Blk w ab 3 #[.int .i64 addr]
  n : Blk w nb 22 #[.int .u32 (n : Int)]
  blk : Blk w ob 109 #[ov]
  row : w.ownsRow b0 3 1 ov outs.length (outs.map (Value.int .i64))
  lt : ob < b0
  la : ab < b0
  ln : nb < b0
  hs : b0 ≤ w.heap.size
  ao : ab ≠ ob
  no : nb ≠ ob
theorem O.below {w w' : World} {ab nb ob b0 : Nat} {addr : Int} {n : Nat} {ov : Value} {outs : List Int} (h : O w ab nb ob b0 addr n ov outs) (hb : Below w.heap.size w w') : O w' ab nb ob b0 addr n ov outs :=
  ⟨h.a.below hb h.a.lt, h.n.below hb h.n.lt, h.blk.below hb h.blk.lt, own_below h.row (Nat.le_refl _) hb, h.lt, h.la, h.ln, Nat.le_trans h.hs hb.size, h.ao, h.no⟩
theorem int_info : (Tryd.prog.info? 3).map (fun i => (i.zero, i.size, i.bytes)) = some (some (.int .i64 0), 1, 8) := by kernel_rfl

theorem wake1_no (ab nb ob b0 : Nat) (addr : Int) (n : Nat) (ov : Value) (outs : List Int) (hn : n ≤ 4294967295) (ho : outs.length ≤ 10000) (x : Slp) (hx : ¬ (x.2 = addr ∧ outs.length < n)) (w : World) (h : O w ab nb ob b0 addr n ov outs) :
    Calls Tryd.prog 140 #[.agg #[.int .i64 x.1, .int .i64 x.2], .pointer (some ⟨ab, 0, none⟩), .pointer (some ⟨ob, 0, none⟩), .pointer (some ⟨nb, 0, none⟩)] w fun e w' => e = .returned (.bool false) ∧ Below w.heap.size w w' := by
  obtain ⟨a, b⟩ := x
  dsimp only at hx ⊢
  have hal := (Below.refl w.heap.size w).alloc (Nat.le_refl _) (.cells #[.int .i64 a, .int .i64 b] 159)
  have ka := keepAt hal h.a.lt ((h.a.cell 0).trans rfl)
  have kn := keepAt hal h.n.lt ((h.n.cell 0).trans rfl)
  have ko := keepAt hal h.blk.lt ((h.blk.cell 0).trans rfl)
  obtain ⟨oA, oc, rfl, _, _⟩ := own_sl h.row
  clear h
  by_cases hb : b = addr
  · subst hb
    have hlt : ¬ outs.length < n := fun h => hx ⟨rfl, h⟩
    have hge : (n : Int) ≤ (outs.length : Int) := by omega
    have hne : (b != b) = false := by simp
    clear hx hlt
    generalize outs.length = k at *
    go_enter Tryd.func140, Tryd.ntmps140
    go_wp2
    go_ret
    exact ⟨rfl, hal⟩
  · have hne : (b != addr) = true := by simp [hb]
    clear hx hb
    go_enter Tryd.func140, Tryd.ntmps140
    go_wp2
    go_ret
    exact ⟨rfl, hal⟩

def Woken (w w' : World) (ab nb ob b0 : Nat) (addr : Int) (n : Nat) (ov : Value) (outs : List Int) : Prop := ∃ ov', O w' ab nb ob b0 addr n ov' outs ∧ KStep w w' ob ov
set_option maxHeartbeats 1000000 in
theorem wake1_yes (ab nb ob b0 : Nat) (addr : Int) (n : Nat) (ov : Value) (outs : List Int) (hn : n ≤ 4294967295) (ho : outs.length ≤ 10000) (x : Slp) (hx : x.2 = addr) (hlt : outs.length < n) (w : World) (h : O w ab nb ob b0 addr n ov outs) :
    Calls Tryd.prog 140 #[.agg #[.int .i64 x.1, .int .i64 x.2], .pointer (some ⟨ab, 0, none⟩), .pointer (some ⟨ob, 0, none⟩), .pointer (some ⟨nb, 0, none⟩)] w fun e w' => e = .returned (.bool true) ∧ Woken w w' ab nb ob b0 addr n ov (outs ++ [x.1]) := by
  obtain ⟨a, b⟩ := x
  dsimp only at hx ⊢
  subst hx
  have hal := (Below.refl w.heap.size w).alloc (Nat.le_refl _) (.cells #[.int .i64 a, .int .i64 b] 159)
  have h1 := h.below hal
  have hal2 := (Below.refl (w.alloc (.cells #[.int .i64 a, .int .i64 b] 159)).heap.size (w.alloc (.cells #[.int .i64 a, .int .i64 b] 159))).alloc (Nat.le_refl _) (.cells #[.int .i64 a] 3)
  have h2 := h1.below hal2
  have ka : (w.alloc (.cells #[.int .i64 a, .int .i64 b] 159)).cell? ⟨ab, 0, none⟩ = some (.int .i64 b) := (h1.a.cell 0).trans rfl
  have kn : (w.alloc (.cells #[.int .i64 a, .int .i64 b] 159)).cell? ⟨nb, 0, none⟩ = some (.int .u32 (n : Int)) := (h1.n.cell 0).trans rfl
  have ko : (w.alloc (.cells #[.int .i64 a, .int .i64 b] 159)).cell? ⟨ob, 0, none⟩ = some ov := (h1.blk.cell 0).trans rfl
  obtain ⟨oA, oc, rfl, _, _⟩ := own_sl h.row
  have hown := h2.row
  have hblk := h2.blk
  have hA := h2.a
  have hN := h2.n
  have hlb := h.lt
  have hla := h.la
  have hln := h.ln
  have hbase := h2.hs
  have hS2 : KStep w ((w.alloc (.cells #[.int .i64 a, .int .i64 b] 159)).alloc (.cells #[.int .i64 a] 3)) ob (.slice oA outs.length oc) := KStep.of_below (step_below hal hal2)
  have hsl := sl_new2 w (.cells #[.int .i64 a, .int .i64 b] 159) 3 [.int .i64 a]
  have hone : ∀ k, k < 1 * 1 → ([Value.int .i64 a].getD k undef).oneCell' = true := fun k hk => by
    obtain rfl : k = 0 := by omega
    rfl
  have hlt' : ¬ (n : Int) ≤ (outs.length : Int) := by omega
  have hne : (b != b) = false := by simp
  have HD := Lib.hid (And.intro h.ao h.no)
  obtain ⟨i0, hi, hy0, hy1, hy2⟩ := info_parts int_info
  clear h h1 h2 hal hal2
  go_enter Tryd.func140, Tryd.ntmps140
  go_wp2_with (at_builtin; refine wpList_append_sl _ rfl (.tmp 18) (.tmp 21) 109 rfl b0 3 i0 _ 1 8 Tryd.underlying109 hi hy0 hy1 hy2 rfl (by omega) _ outs.length _ rfl hown _ 1 _ (fun i => [Value.int .i64 a].getD i undef) rfl hsl hone (by unfold maxLen; omega) (by omega) hbase ?_; intro v' w5 hown5 hg5 _; rw [range_getD [Value.int .i64 a] (1 * 1) rfl] at hown5; have hb5 := hblk.grow_own hown hg5 hlb; have f0 := hb5.frozen 0; have q0 : w5.cell? ⟨ob, 0, none⟩ = some (.slice oA outs.length oc) := (hb5.cell 0).trans rfl; have h5 : O (w5.setCell ⟨ob, 0, none⟩ v') ab nb ob b0 b n v' (outs ++ [a]) := ⟨(hA.grow_own hown hg5 hla).far (by exact HD.out.1) v', (hN.grow_own hown hg5 hln).far (by exact HD.out.2) v', hb5.set_ 0 v', by rw [List.length_append, List.map_append]; exact own_grown hown5 (set_only _) hlb, hlb, hla, hln, Nat.le_trans hbase (Nat.le_trans hg5.size (set_only (w := w5) (g := ob) (j := 0) v').size), HD.out.1, HD.out.2⟩; have hS5 : KStep w (w5.setCell ⟨ob, 0, none⟩ v') ob (.slice oA outs.length oc) := ⟨hg5.os.trans hS2.os, hg5.tape.trans hS2.tape, hg5.output.trans hS2.output, by have := hg5.size; have := hS2.size; have := (set_only (w := w5) (g := ob) (j := 0) v').size; omega, fun i hi h1 h2 => (Below.heap_setCell w5 ⟨ob, 0, none⟩ v' i h1).trans ((hg5.block i (Nat.lt_of_lt_of_le hi hS2.size) h2).trans (hS2.block i hi h1 h2))⟩; obtain ⟨nA, nc, rfl, _, _⟩ := own_sl hown5; have H5 := Lib.hid (And.intro h5 hS5); clear h5 hS5 hown hown5 hg5 hblk hb5 hS2 hsl hone hA hN)
  go_ret
  exact ⟨rfl, _, H5.out.1, H5.out.2⟩
end Go.Proofs.YtjmnogpnjombgaaDoor
