/- law08's Yard as a port: its state, what of it lies where. law08's Yard: room, empty, ask. law08's Yard: remote, swap. law08's Yard: load. law08's Yard: its functions as a port's. law08's Yard: its rows that grow: events, sleepers, the buffer. -/
import Derived.Test.YtjmnogpnjombgaaDoorCoreStep
import Derived.Deep.LoopGhost
namespace Go.Proofs.YtjmnogpnjombgaaDoor
open Go.ChangeShapes Go.WideShapes Go.ChangeAt Go.RowKit Go.Deep
set_option linter.unusedVariables false
set_option maxRecDepth 100000
set_option linter.unusedSimpArgs false

def entc (x : Int × Int) : List Value := [.int .i64 x.1, .int .u32 x.2]
def slpc (x : Int × Int) : List Value := [.int .i64 x.1, .int .i64 x.2]
/-- A yard's state. -/
structure Yst where
  (mem : List Int)
  (buf : List (Int × Int))
  (slp : List (Int × Int))
  (evs : List Evt)
  (asks : ByteArray)
/-- Where a yard's parts lie, and what of it stays. -/
structure YB where
  (yb wb xb ab bb : Nat)
  mv : Value
  (n bl bcap : Nat)
  (cv tv : Value)
  (room base : Nat)

theorem Stay.cell {own : Nat → Prop} {W W' : World} (h : Stay own W W') {g : Nat} (hg : own g) (j : Nat) : W'.cell? ⟨g, j, none⟩ = W.cell? ⟨g, j, none⟩ := by
  have := h.own g hg
  simp only [World.cell?, this]
theorem Stay.sle {own : Nat → Prop} {W W' : World} (h : Stay own W W') {A : Option Addr} {len size : Nat} {E : Nat → List Value} (hs : SlE W A len size E) (hA : 0 < len → ∀ b o, A = some ⟨b, o, none⟩ → own b) : SlE W' A len size E := fun hn => by
  obtain ⟨b, off, rfl, hlt, hc⟩ := hs hn
  exact ⟨b, off, rfl, Nat.lt_of_lt_of_le hlt h.size, fun i hi j u hu => (h.cell (hA hn b off rfl) _).trans (hc i hi j u hu)⟩
theorem Stay.sl {own : Nat → Prop} {W W' : World} (h : Stay own W W') {A : Option Addr} {len : Nat} {E : Nat → Value} (hs : Sl W A len E) (hA : 0 < len → ∀ b o, A = some ⟨b, o, none⟩ → own b) : Sl W' A len E := fun hn => by
  obtain ⟨b, off, rfl, hlt, hc⟩ := hs hn
  exact ⟨b, off, rfl, Nat.lt_of_lt_of_le hlt h.size, fun i hi => (h.cell (hA hn b off rfl) _).trans (hc i hi)⟩
theorem Stay.row {own : Nat → Prop} {W W' : World} (h : Stay own W W') {base : Nat} {e : TypeId} {size n : Nat} {v : Value} {xs : List Value} (hr : W.ownsRow base e size v n xs) (ho : ∀ g, v.ownBlock = some g → own g) : W'.ownsRow base e size v n xs := by
  obtain ⟨h1, h2⟩ := hr
  refine ⟨h1, ?_⟩
  rcases h2 with h2 | ⟨g, cap, cur, rfl, hgb, hh, q⟩
  · exact .inl h2
  · exact .inr ⟨g, cap, cur, rfl, hgb, (h.own g (ho g rfl)).trans hh, q⟩

/-- The yard's invariant. -/
def YInv (B : YB) (s : Yst) (own : Nat → Prop) (W : World) : Prop :=
  ∃ (bv sv ev : Value) (cur : Array Value),
    (∀ i, own i → 2 ≤ i ∧ i < W.heap.size) ∧ (own B.yb ∧ own B.wb ∧ own B.xb ∧ own B.ab ∧ own B.bb) ∧
    (∀ g, bv.ownBlock = some g → own g) ∧ (∀ g, B.mv.ownBlock = some g → own g) ∧ (∀ g, sv.ownBlock = some g → own g) ∧ (∀ g, ev.ownBlock = some g → own g) ∧
    Blk W B.yb 43 #[B.cv, B.tv, .slice (some ⟨B.bb, 0, none⟩) B.bl B.bcap, B.mv, .int .i64 (B.room : Int), sv, ev, .bool false, .string s.asks] ∧
    Blk W B.wb 107 #[.pointer (some ⟨B.yb, 0, none⟩)] ∧ Blk W B.xb 33 #[.pointer (some ⟨B.yb, 0, none⟩)] ∧
    Blk W B.ab 108 #[.func (.func 57) #[] #[.pointer (some ⟨B.xb, 0, none⟩)]] ∧
    Blk W B.bb 27 cur ∧ cur[0]? = some bv ∧ 0 < B.bl ∧ s.mem.length = B.n ∧
    W.ownsRow B.base 96 2 bv s.buf.length (s.buf.flatMap entc) ∧ W.ownsRow B.base 22 1 B.mv s.mem.length (s.mem.map fun z => .int .u32 z) ∧
    W.ownsRow B.base 98 2 sv s.slp.length (s.slp.flatMap slpc) ∧ W.ownsRow B.base 86 8 ev s.evs.length (s.evs.flatMap Evt.cells)

theorem YInv.keep (B : YB) (s : Yst) (own : Nat → Prop) (W W' : World) (h : YInv B s own W) (k : Stay own W W') : YInv B s own W' := by
  obtain ⟨bv, sv, ev, cur, h1, ⟨o1, o2, o3, o4, o5⟩, h3, h4, h5, h6, b1, b2, b3, b4, b5, c0, hl, hn, hb, hm, hs, he⟩ := h
  have bk : ∀ {g : Nat} {t : TypeId} {cs : Array Value}, Blk W g t cs → own g → Blk W' g t cs := fun hb ho => (k.own _ ho).trans hb
  exact ⟨bv, sv, ev, cur, fun i hi => ⟨(h1 i hi).1, Nat.lt_of_lt_of_le (h1 i hi).2 k.size⟩, ⟨o1, o2, o3, o4, o5⟩, h3, h4, h5, h6, bk b1 o1, bk b2 o2, bk b3 o3, bk b4 o4, bk b5 o5, c0, hl, hn,
    k.row hb h3, k.row hm h4, k.row hs h5, k.row he h6⟩
theorem Blk.ne {W : World} {g g' : Nat} {t t' : TypeId} {cs cs' : Array Value} (h : Blk W g t cs) (h' : Blk W g' t' cs') (hne : t ≠ t') : g ≠ g' := fun e => by
  subst e
  have := h.symm.trans h'
  injection this with this
  injection this with _ e _
  exact hne e
theorem row_ne {W : World} {g base size n : Nat} {t e : TypeId} {cs : Array Value} {v : Value} {xs : List Value} (h : Blk W g t cs) (hr : W.ownsRow base e size v n xs) (hne : t ≠ e) : some g ≠ v.ownBlock := fun q => by
  rcases hr.2 with ⟨rfl, _⟩ | ⟨g', cap, cur, rfl, _, hh, _⟩
  · cases q
  · obtain rfl := Option.some.inj q
    have := h.symm.trans hh
    injection this with this
    injection this with _ e1 _
    exact hne e1
/-- A block grows or is written; a row whose block it is not stays. -/
theorem row_grown {w w' : World} {base size n g : Nat} {e : TypeId} {v : Value} {xs : List Value} (h : w.ownsRow base e size v n xs) (hg : w.grownBy w' (some g)) (hne : some g ≠ v.ownBlock) : w'.ownsRow base e size v n xs := by
  obtain ⟨h1, h2⟩ := h
  refine ⟨h1, ?_⟩
  rcases h2 with h2 | ⟨k, cap, cur, rfl, hgb, hh, q⟩
  · exact .inl h2
  · have hlt : k < w.heap.size := by
      rcases Nat.lt_or_ge k w.heap.size with hlt | hge
      · exact hlt
      · rw [Array.getElem?_eq_none hge] at hh; cases hh
    exact .inr ⟨k, cap, cur, rfl, hgb, (hg.block k hlt (fun e => hne e.symm)).trans hh, q⟩
/-- A letter more is asked. -/
theorem YInv.ask {B : YB} {s : Yst} {own : Nat → Prop} {W : World} (h : YInv B s own W) (a : ByteArray) : YInv B { s with asks := a } own (W.setCell ⟨B.yb, 8, none⟩ (.string a)) := by
  obtain ⟨bv, sv, ev, cur, h1, ho, h3, h4, h5, h6, b1, b2, b3, b4, b5, c0, hl, hn, hb, hm, hs, he⟩ := h
  have hg : W.grownBy (W.setCell ⟨B.yb, 8, none⟩ (.string a)) (some B.yb) := set_only _
  refine ⟨bv, sv, ev, cur, fun i hi => ⟨(h1 i hi).1, Nat.lt_of_lt_of_le (h1 i hi).2 hg.size⟩, ho, h3, h4, h5, h6, b1.set_ 8 _, b2.grown hg ?_, b3.grown hg ?_, b4.grown hg ?_, b5.grown hg ?_, c0, hl, hn, row_grown hb hg (row_ne b1 hb (by decide)), row_grown hm hg (row_ne b1 hm (by decide)), row_grown hs hg (row_ne b1 hs (by decide)), row_grown he hg (row_ne b1 he (by decide))⟩
  · exact fun e => b2.ne b1 (by decide) (Option.some.inj e)
  · exact fun e => b3.ne b1 (by decide) (Option.some.inj e)
  · exact fun e => b4.ne b1 (by decide) (Option.some.inj e)
  · exact fun e => b5.ne b1 (by decide) (Option.some.inj e)
end Go.Proofs.YtjmnogpnjombgaaDoor
namespace Go.Proofs.YtjmnogpnjombgaaDoor
open Go.ChangeShapes Go.WideShapes Go.ChangeAt Go.RowKit Go.Deep
set_option linter.unusedVariables false
set_option maxRecDepth 100000
set_option linter.unusedSimpArgs false

set_option maxHeartbeats 1000000 in
theorem yroom_any (B : YB) (s : Yst) (own : Nat → Prop) (W : World) (h : YInv B s own W) (hl : s.buf.length ≤ 1000000) (hr : B.room ≤ 1000000) :
    Calls Tryd.prog 59 #[.pointer (some ⟨B.wb, 0, none⟩)] W fun e W' => e = .returned (.bool (decide (s.buf.length < B.room))) ∧ ∃ q, W' = W.drewN q := by
  obtain ⟨bv, sv, ev, cur, h1, ho, h3, h4, h5, h6, b1, b2, b3, b4, b5, c0, hbl, hn, hb, hm, hs, he⟩ := h
  obtain ⟨bA, bc, rfl, hbc, hbm⟩ := own_cap hb
  have w0 : W.cell? ⟨B.wb, 0, none⟩ = some (.pointer (some ⟨B.yb, 0, none⟩)) := (b2.cell 0).trans rfl
  have y2 : W.cell? ⟨B.yb, 2, none⟩ = some (.slice (some ⟨B.bb, 0, none⟩) B.bl B.bcap) := (b1.cell 2).trans rfl
  have y4 : W.cell? ⟨B.yb, 4, none⟩ = some (.int .i64 (B.room : Int)) := (b1.cell 4).trans rfl
  have q0 := (b5.cell 0).trans c0
  clear b1 b2 b3 b4 b5 c0 hb hm hs he h1 ho h3 h4 h5 h6 hn hbc hbm
  generalize s.buf.length = l at *
  generalize B.room = r at *
  have hlr : (decide (l < r)) = decide ((l : Int) < (r : Int)) := by simp
  rw [hlr]
  clear hlr
  by_cases hlt : (l : Int) < (r : Int)
  all_goals
    go_enter Tryd.func59, Tryd.ntmps59
    go_wp2
    go_quiet (fail)
    go_wp2
    go_ret
    exact ⟨by simp [hlt], _, rfl⟩

set_option maxHeartbeats 1000000 in
theorem yempty_any (B : YB) (s : Yst) (own : Nat → Prop) (W : World) (h : YInv B s own W) (hl : s.buf.length ≤ 1000000) :
    Calls Tryd.prog 61 #[.pointer (some ⟨B.wb, 0, none⟩)] W fun e W' => e = .returned (.bool (decide (s.buf.length = 0))) ∧ W' = W := by
  obtain ⟨bv, sv, ev, cur, h1, ho, h3, h4, h5, h6, b1, b2, b3, b4, b5, c0, hbl, hn, hb, hm, hs, he⟩ := h
  obtain ⟨bA, bc, rfl, hbc, hbm⟩ := own_cap hb
  have w0 : W.cell? ⟨B.wb, 0, none⟩ = some (.pointer (some ⟨B.yb, 0, none⟩)) := (b2.cell 0).trans rfl
  have y2 : W.cell? ⟨B.yb, 2, none⟩ = some (.slice (some ⟨B.bb, 0, none⟩) B.bl B.bcap) := (b1.cell 2).trans rfl
  have y4 : W.cell? ⟨B.yb, 4, none⟩ = some (.int .i64 (B.room : Int)) := (b1.cell 4).trans rfl
  have q0 := (b5.cell 0).trans c0
  clear b1 b2 b3 b4 b5 c0 hb hm hs he h1 ho h3 h4 h5 h6 hn hbc hbm
  generalize s.buf.length = l at *
  have hq : ((l : Int) == 0) = decide (l = 0) := by
    by_cases h : l = 0
    · subst h; rfl
    · rw [decide_eq_false h]; exact beq_eq_false_iff_ne.2 (by omega)
  rw [← hq]
  clear hq
  go_enter Tryd.func61, Tryd.ntmps61
  go_wp2
  go_ret
  exact ⟨rfl, rfl⟩

set_option maxHeartbeats 1000000 in
theorem yask_any (B : YB) (s : Yst) (own : Nat → Prop) (W : World) (h : YInv B s own W) (x : ByteArray) (hx : s.asks.size + x.size ≤ 1000000) :
    Calls Tryd.prog 57 #[.string x, .pointer (some ⟨B.xb, 0, none⟩)] W fun e W' => (∃ u, e = .returned u) ∧ YInv B { s with asks := s.asks ++ x } own W' ∧ W.grownBy W' (some B.yb) := by
  have hY := h.ask (s.asks ++ x)
  have hx' : ¬ 9223372036854775807 < s.asks.size + x.size := by omega
  clear hx
  obtain ⟨bv, sv, ev, cur, h1, ho, h3, h4, h5, h6, b1, b2, b3, b4, b5, c0, hbl, hn, hb, hm, hs, he⟩ := h
  have x0 : W.cell? ⟨B.xb, 0, none⟩ = some (.pointer (some ⟨B.yb, 0, none⟩)) := (b3.cell 0).trans rfl
  have y8 : W.cell? ⟨B.yb, 8, none⟩ = some (.string s.asks) := (b1.cell 8).trans rfl
  have f8 := b1.frozen 8
  have HY := Lib.hid (And.intro hY (set_only (w := W) (g := B.yb) (j := 8) (.string (s.asks ++ x))))
  clear b1 b2 b3 b4 b5 c0 hb hm hs he h1 ho h3 h4 h5 h6 hn hY
  go_enter Tryd.func57, Tryd.ntmps57
  go_wp2
  go_region
  all_goals
    go_wp2
    go_end0
    obtain ⟨h1, h2⟩ := HY.out
    first
      | exact ⟨⟨_, rfl⟩, h1.keep _ _ _ _ _ ⟨fun _ _ => rfl, Nat.le_refl _⟩, ⟨h2.os, h2.tape, h2.output, h2.size, h2.block⟩⟩
      | exact ⟨⟨_, rfl⟩, YInv.keep _ _ _ _ _ h1 ⟨fun _ _ => rfl, Nat.le_refl _⟩, ⟨h2.os, h2.tape, h2.output, h2.size, h2.block⟩⟩
end Go.Proofs.YtjmnogpnjombgaaDoor
namespace Go.Proofs.YtjmnogpnjombgaaDoor
open Go.ChangeShapes Go.WideShapes Go.ChangeAt Go.RowKit Go.Deep
set_option linter.unusedVariables false
set_option maxRecDepth 100000
set_option linter.unusedSimpArgs false

/-- One cell of an owned row of one-cell elements is written. -/
theorem row_set {w : World} {base n : Nat} {e : TypeId} {v : Value} {xs : List Value} (h : w.ownsRow base e 1 v n xs) {i : Nat} (hi : i < n) (u : Value) :
    ∃ g cap, v = .slice (some ⟨g, 0, none⟩) n cap ∧ n ≤ cap ∧ cap ≤ maxLen ∧ (∃ cur, Blk w g e cur) ∧ (∀ x, xs[i]? = some x → w.cell? ⟨g, i, none⟩ = some x) ∧ (w.setCell ⟨g, i, none⟩ u).ownsRow base e 1 v n (xs.set i u) ∧ w.grownBy (w.setCell ⟨g, i, none⟩ u) (some g) := by
  obtain ⟨h1, h2⟩ := h
  rcases h2 with ⟨_, rfl⟩ | ⟨g, cap, cur, rfl, hb, hg, hc, hm, hs, ht⟩
  · omega
  · have hB : Blk w g e cur := hg
    refine ⟨g, cap, rfl, hc, hm, ⟨cur, hB⟩, fun x hx => ?_, ⟨by simpa using h1, .inr ⟨g, cap, cur.setIfInBounds i u, rfl, hb, hB.set_ i u, hc, hm, by simpa using hs, ?_⟩⟩, set_only u⟩
    · rw [hB.cell]
      rw [← ht, List.getElem?_take_of_lt (by omega)] at hx
      simpa using hx
    · rw [← ht, Array.toList_setIfInBounds, List.take_set]

theorem YInv.setMem {B : YB} {s : Yst} {own : Nat → Prop} {W : World} (h : YInv B s own W) {i : Nat} (hi : i < B.n) (z : Int) :
    ∃ g cap, B.mv = .slice (some ⟨g, 0, none⟩) B.n cap ∧ B.n ≤ cap ∧ cap ≤ maxLen ∧ W.cell? ⟨g, i, none⟩ = some (.int .u32 (s.mem.getD i 0)) ∧ W.frozen? ⟨g, i, none⟩ = false ∧ YInv B { s with mem := s.mem.set i z } own (W.setCell ⟨g, i, none⟩ (.int .u32 z)) ∧ own g ∧ g ≠ B.yb := by
  obtain ⟨bv, sv, ev, cur, h1, ho, h3, h4, h5, h6, b1, b2, b3, b4, b5, c0, hl, hn, hb, hm, hs, he⟩ := h
  have him : i < s.mem.length := by omega
  obtain ⟨g, cap, e, hc, hcm, ⟨cs, hB⟩, hcell, hrow, hg⟩ := row_set hm him (.int .u32 z)
  rw [hn] at e hc
  have hr : ∀ {e : TypeId} {size n : Nat} {v : Value} {xs : List Value}, W.ownsRow B.base e size v n xs → 22 ≠ e → (W.setCell ⟨g, i, none⟩ (.int .u32 z)).ownsRow B.base e size v n xs := fun h ht => row_grown h hg (row_ne hB h ht)
  refine ⟨g, cap, e, hc, hcm, hcell _ (by simp [List.getElem?_eq_getElem him, List.getD_eq_getElem?_getD]), hB.frozen i, ⟨bv, sv, ev, cur, fun j hj => ⟨(h1 j hj).1, Nat.lt_of_lt_of_le (h1 j hj).2 hg.size⟩, ho, h3, h4, h5, h6, b1.grown hg ?_, b2.grown hg ?_, b3.grown hg ?_, b4.grown hg ?_, b5.grown hg ?_, c0, hl, by simpa using hn, hr hb (by decide), by simpa [List.map_set] using hrow, hr hs (by decide), hr he (by decide)⟩, h4 g (by rw [e]; rfl), hB.ne b1 (by decide)⟩
  · exact fun e => b1.ne hB (by decide) (Option.some.inj e)
  · exact fun e => b2.ne hB (by decide) (Option.some.inj e)
  · exact fun e => b3.ne hB (by decide) (Option.some.inj e)
  · exact fun e => b4.ne hB (by decide) (Option.some.inj e)
  · exact fun e => b5.ne hB (by decide) (Option.some.inj e)

theorem YInv.abx {B : YB} {s : Yst} {own : Nat → Prop} {W : World} (h : YInv B s own W) : W.cell? ⟨B.ab, 0, none⟩ = some (.func (.func 57) #[] #[.pointer (some ⟨B.xb, 0, none⟩)]) ∧ W.cell? ⟨B.wb, 0, none⟩ = some (.pointer (some ⟨B.yb, 0, none⟩)) ∧ W.cell? ⟨B.yb, 3, none⟩ = some B.mv ∧ W.frozen? ⟨B.yb, 3, none⟩ = false := by
  obtain ⟨bv, sv, ev, cur, h1, ho, h3, h4, h5, h6, b1, b2, b3, b4, b5, c0, hl, hn, hb, hm, hs, he⟩ := h
  exact ⟨(b4.cell 0).trans rfl, (b2.cell 0).trans rfl, (b1.cell 3).trans rfl, b1.frozen 3⟩

set_option maxHeartbeats 1000000 in
theorem yremote_any (B : YB) (s : Yst) (own : Nat → Prop) (W : World) (h : YInv B s own W) (hx : s.asks.size + 1 ≤ 1000000) :
    Calls Tryd.prog 68 #[.pointer (some ⟨B.ab, 0, none⟩)] W fun e W' => (∃ u, e = .returned u) ∧ YInv B { s with asks := s.asks ++ ⟨#[114]⟩ } own W' ∧ W.grownBy W' (some B.yb) := by
  have hA := yask_any B s own W h ⟨#[114]⟩ hx
  obtain ⟨a0, _, _⟩ := h.abx
  clear h hx
  go_enter Tryd.func68, Tryd.ntmps68
  go_wp2_with fail
  refine hA.mono ?_
  rintro e W1 ⟨⟨u, rfl⟩, h1⟩
  have H1 := Lib.hid h1
  clear hA h1 a0
  go_wp2
  go_end0
  exact ⟨⟨_, rfl⟩, H1.out⟩

set_option maxHeartbeats 2000000 in
theorem yswap_any (B : YB) (s : Yst) (own : Nat → Prop) (W : World) (h : YInv B s own W) (hx : s.asks.size + 1 ≤ 1000000) (hn : B.n ≤ 1000000) (i : Nat) (hi : i < B.n) (z : Int) :
    Calls Tryd.prog 64 #[.int .i64 (i : Int), .int .u32 z, .pointer (some ⟨B.ab, 0, none⟩), .pointer (some ⟨B.wb, 0, none⟩)] W fun e W' => (∃ u, e = .returned u) ∧ YInv B { s with asks := s.asks ++ ⟨#[120]⟩, mem := s.mem.set i z } own W' ∧ ∃ g W1, own g ∧ W.grownBy W1 (some B.yb) ∧ W1.grownBy W' (some g) := by
  have hA := yask_any B s own W h ⟨#[120]⟩ hx
  obtain ⟨a0, _, _⟩ := h.abx
  have i0 : (0 : Int) ≤ (i : Int) := by omega
  have i1 : (i : Int) < (B.n : Int) := by omega
  have i2 : ¬ (i : Int) < 0 := by omega
  have i3 : ¬ (B.n : Int) ≤ (i : Int) := by omega
  clear h hx
  go_enter Tryd.func64, Tryd.ntmps64
  go_wp2_with fail
  refine hA.mono ?_
  rintro e W1 ⟨⟨u, rfl⟩, h1, hg1⟩
  obtain ⟨_, w0, y3, f3⟩ := h1.abx
  obtain ⟨g, cap, hmv, hc, hcm, m0, mf, hY, hog, hne⟩ := h1.setMem hi z
  rw [hmv] at y3
  have hcc : B.n ≤ cap := hc
  have H1 := Lib.hid (And.intro hY (And.intro hog (And.intro hg1 (set_only (w := W1) (g := g) (j := i) (.int .u32 z)))))
  clear hA h1 hg1 hY hog hmv a0 f3 hne hcm
  generalize s.mem.getD i 0 = old at m0
  go_wp2
  go_ret
  exact ⟨⟨_, rfl⟩, H1.out.1, g, W1, H1.out.2.1, H1.out.2.2.1, H1.out.2.2.2⟩
end Go.Proofs.YtjmnogpnjombgaaDoor
namespace Go.Proofs.YtjmnogpnjombgaaDoor
open Go.ChangeShapes Go.WideShapes Go.ChangeAt Go.RowKit Go.Deep
set_option linter.unusedVariables false
set_option maxRecDepth 100000
set_option linter.unusedSimpArgs false

/-- The newest entry of an address among the first k. -/
def newest (l : List (Int × Int)) (a : Int) : Nat → Option Int
  | 0 => none
  | k + 1 => if (l.getD k (0, 0)).1 = a then some (l.getD k (0, 0)).2 else newest l a k
theorem newest_succ (l : List (Int × Int)) (a : Int) (k : Nat) : newest l a (k + 1) = if (l.getD k (0, 0)).1 = a then some (l.getD k (0, 0)).2 else newest l a k := rfl
/-- What a load sees. -/
def seeY (s : Yst) (a : Nat) : Int := (newest s.buf (a : Int) s.buf.length).getD (s.mem.getD a 0)

theorem YInv.bufs {B : YB} {s : Yst} {own : Nat → Prop} {W : World} (h : YInv B s own W) : ∃ A cap, W.cell? ⟨B.yb, 2, none⟩ = some (.slice (some ⟨B.bb, 0, none⟩) B.bl B.bcap) ∧ W.cell? ⟨B.bb, 0, none⟩ = some (.slice A s.buf.length cap) ∧ s.buf.length ≤ cap ∧ SlE W A s.buf.length 2 (fun i => entc (s.buf.getD i (0, 0))) ∧ 0 < B.bl := by
  obtain ⟨bv, sv, ev, cur, h1, ho, h3, h4, h5, h6, b1, b2, b3, b4, b5, c0, hl, hn, hb, hm, hs, he⟩ := h
  obtain ⟨A, cap, rfl, hc, hsl⟩ := own_sle entc (fun _ => rfl) (0, 0) s.buf hb
  exact ⟨A, cap, (b1.cell 2).trans rfl, (b5.cell 0).trans c0, hc, hsl, hl⟩

set_option maxHeartbeats 2000000 in
theorem yload_any (B : YB) (s : Yst) (own : Nat → Prop) (W : World) (h : YInv B s own W) (hx : s.asks.size + 1 ≤ 1000000) (hn : B.n ≤ 1000000) (hl : s.buf.length ≤ 1000000) (i : Nat) (hi : i < B.n) :
    Calls Tryd.prog 58 #[.int .i64 (i : Int), .pointer (some ⟨B.ab, 0, none⟩), .pointer (some ⟨B.wb, 0, none⟩)] W fun e W' => e = .returned (.int .u32 (seeY s i)) ∧ YInv B { s with asks := s.asks ++ ⟨#[108]⟩ } own W' ∧ W.grownBy W' (some B.yb) := by
  have hA := yask_any B s own W h ⟨#[108]⟩ hx
  obtain ⟨a0, _, _⟩ := h.abx
  have i0 : (0 : Int) ≤ (i : Int) := by omega
  have i1 : (i : Int) < (B.n : Int) := by omega
  have i2 : ¬ (i : Int) < 0 := by omega
  have i3 : ¬ (B.n : Int) ≤ (i : Int) := by omega
  clear h hx
  obtain ⟨sv, hsv⟩ : ∃ sv, seeY s i = sv := ⟨_, rfl⟩
  rw [hsv]
  unfold seeY at hsv
  have HV := Lib.hid hsv
  clear hsv
  go_enter Tryd.func58, Tryd.ntmps58
  go_wp2_with fail
  refine hA.mono ?_
  rintro e W1 ⟨⟨u, rfl⟩, h1, hg1⟩
  obtain ⟨_, w0, y3, f3⟩ := h1.abx
  obtain ⟨g, cap, hmv, hc, hcm, m0, mf, _, _, _⟩ := h1.setMem hi 0
  obtain ⟨A, bcap, y2, q0, hbc, hsl, hbl⟩ := h1.bufs
  rw [hmv] at y3
  dsimp only at q0 hbc hsl m0
  have H1 := Lib.hid (And.intro h1 hg1)
  have HS := Lib.hid hsl
  clear hA h1 hg1 hmv a0 f3 hcm mf hsl
  obtain ⟨l, hll⟩ : ∃ l, s.buf.length = l := ⟨_, rfl⟩
  obtain ⟨old, hold⟩ : ∃ old, s.mem.getD i 0 = old := ⟨_, rfl⟩
  rw [hll] at q0 hbc hl
  rw [hold] at m0
  have HL := Lib.hid (And.intro hll hold)
  clear hll hold
  go_wp2
  go_loopw [5] (fun v wr => ∃ k : Nat, k ≤ l ∧ v = .int .i64 ((k : Int) - 1) ∧ Hid (newest s.buf (i : Int) k = newest s.buf (i : Int) l) ∧ wr = W1) (fun v _ => (intOf v + 1).toNat)
  case atStart => exact ⟨l, Nat.le_refl _, rfl, Lib.hid rfl, rfl⟩
  case round =>
    obtain ⟨k, hk, rfl, hN, rfl⟩ := hrel
    rcases k with _ | k
    · have hv : sv = old := by
        have h1 := HV.out
        have h2 := hN.out
        rw [HL.out.1, ← h2, HL.out.2] at h1
        exact h1.symm
      subst hv
      go_wp2
      go_ret
      exact ⟨rfl, H1.out⟩
    · have hkl : k < s.buf.length := by have := HL.out.1; omega
      obtain ⟨b, off, hA, hblt, hcc⟩ := HS.out (by omega)
      have e0 := hcc k hkl 0 _ rfl
      have e1 := hcc k hkl 1 _ rfl
      have hn' := hN.out
      rw [newest_succ] at hn'
      clear hcc hblt
      subst hA
      rw [show (((k + 1 : Nat) : Int) - 1) = (k : Int) by omega]
      have k0 : (0 : Int) ≤ (k : Int) := by omega
      rw [Nat.add_zero] at e0
      have k1 : (k : Int) < (l : Int) := by omega
      have HN := Lib.hid hn'
      clear hn'
      have e0' : wr.cell? ⟨b, off + k * 2, none⟩ = some (.int .i64 (s.buf.getD k (0, 0)).1) := e0
      have e1' : wr.cell? ⟨b, off + k * 2 + 1, none⟩ = some (.int .u32 (s.buf.getD k (0, 0)).2) := e1
      clear e0 e1
      generalize (s.buf.getD k (0, 0)) = x at e0' e1' HN
      obtain ⟨xa, xv⟩ := x
      dsimp only at e0' e1'
      by_cases hx : xa = (i : Int)
      · have hv : sv = xv := by
          have h1 := HV.out
          have h2 := HN.out
          rw [if_pos hx] at h2
          rw [HL.out.1, ← h2] at h1
          exact h1.symm
        subst hv hx
        go_wp2
        go_ret
        exact ⟨rfl, H1.out⟩
      · have h2 : Hid (newest s.buf (i : Int) k = newest s.buf (i : Int) l) := Lib.hid (by have h2 := HN.out; rw [if_neg hx] at h2; exact h2)
        go_wp2
        go_roundw
        case rel => exact ⟨k, by omega, rfl, h2, by trivial⟩
        case measure => simp [intOf]
end Go.Proofs.YtjmnogpnjombgaaDoor
namespace Go.Proofs.YtjmnogpnjombgaaDoor
open Go.ChangeShapes Go.WideShapes Go.ChangeAt Go.RowKit Go.Deep
set_option linter.unusedVariables false
set_option maxRecDepth 100000
set_option linter.unusedSimpArgs false

theorem ykeep_grown {own : Nat → Prop} {W W' : World} {g : Nat} (hg : W.grownBy W' (some g)) (ho : own g) : KeepOut own W W' :=
  ⟨hg.os, hg.tape, hg.output, hg.size, fun i hi hn => hg.block i hi (fun e => hn (by rw [Option.some.inj e]; exact ho))⟩
theorem ymoves {B : YB} {s' : Yst} {own : Nat → Prop} {W W' : World} {g : Nat} (h : YInv B s' own W') (hg : W.grownBy W' (some g)) (ho : own g) : Moves (YInv B) s' own W W' :=
  ⟨own, h, fun i hi => .inl hi, ykeep_grown hg ho⟩
theorem ymoves2 {B : YB} {s' : Yst} {own : Nat → Prop} {W W1 W' : World} {g g' : Nat} (h : YInv B s' own W') (hg : W.grownBy W1 (some g)) (ho : own g) (hg' : W1.grownBy W' (some g')) (ho' : own g') : Moves (YInv B) s' own W W' :=
  ⟨own, h, fun i hi => .inl hi, (ykeep_grown hg ho).trans (ykeep_grown hg' ho') (fun i hi => .inl hi)⟩
theorem ymoves_drewN {B : YB} {s : Yst} {own : Nat → Prop} {W : World} (h : YInv B s own W) (q : Nat) : Moves (YInv B) s own W (W.drewN q) :=
  ⟨own, h.keep _ _ _ _ _ ((Stay.refl own W).drewN q), fun i hi => .inl hi, (KeepOut.refl own W).drewN q⟩
theorem YInv.oyb {B : YB} {s : Yst} {own : Nat → Prop} {W : World} (h : YInv B s own W) : own B.yb := by
  obtain ⟨bv, sv, ev, cur, h1, ho, _⟩ := h
  exact ho.1

theorem yroom_m (B : YB) (s : Yst) (own : Nat → Prop) (W : World) (h : YInv B s own W) (hl : s.buf.length ≤ 1000000) (hr : B.room ≤ 1000000) :
    Calls Tryd.prog 59 #[.pointer (some ⟨B.wb, 0, none⟩)] W fun e W' => e = .returned (.bool (decide (s.buf.length < B.room))) ∧ Moves (YInv B) s own W W' :=
  (yroom_any B s own W h hl hr).mono fun e W' ⟨he, q, hq⟩ => ⟨he, by subst hq; exact ymoves_drewN h q⟩
theorem yempty_m (B : YB) (s : Yst) (own : Nat → Prop) (W : World) (h : YInv B s own W) (hl : s.buf.length ≤ 1000000) :
    Calls Tryd.prog 61 #[.pointer (some ⟨B.wb, 0, none⟩)] W fun e W' => e = .returned (.bool (decide (s.buf.length = 0))) ∧ Moves (YInv B) s own W W' :=
  (yempty_any B s own W h hl).mono fun e W' ⟨he, hq⟩ => ⟨he, by subst hq; exact ⟨own, h, fun i hi => .inl hi, KeepOut.refl _ _⟩⟩
theorem yload_m (B : YB) (s : Yst) (own : Nat → Prop) (W : World) (h : YInv B s own W) (hx : s.asks.size + 1 ≤ 1000000) (hn : B.n ≤ 1000000) (hl : s.buf.length ≤ 1000000) (i : Nat) (hi : i < B.n) :
    Calls Tryd.prog 58 #[.int .i64 (i : Int), .pointer (some ⟨B.ab, 0, none⟩), .pointer (some ⟨B.wb, 0, none⟩)] W fun e W' => e = .returned (.int .u32 (seeY s i)) ∧ Moves (YInv B) { s with asks := s.asks ++ ⟨#[108]⟩ } own W W' :=
  (yload_any B s own W h hx hn hl i hi).mono fun e W' ⟨he, h1, hg⟩ => ⟨he, ymoves h1 hg h.oyb⟩
theorem yremote_m (B : YB) (s : Yst) (own : Nat → Prop) (W : World) (h : YInv B s own W) (hx : s.asks.size + 1 ≤ 1000000) :
    Calls Tryd.prog 68 #[.pointer (some ⟨B.ab, 0, none⟩)] W fun e W' => (∃ u, e = .returned u) ∧ Moves (YInv B) { s with asks := s.asks ++ ⟨#[114]⟩ } own W W' :=
  (yremote_any B s own W h hx).mono fun e W' ⟨he, h1, hg⟩ => ⟨he, ymoves h1 hg h.oyb⟩
theorem yswap_m (B : YB) (s : Yst) (own : Nat → Prop) (W : World) (h : YInv B s own W) (hx : s.asks.size + 1 ≤ 1000000) (hn : B.n ≤ 1000000) (i : Nat) (hi : i < B.n) (z : Int) :
    Calls Tryd.prog 64 #[.int .i64 (i : Int), .int .u32 z, .pointer (some ⟨B.ab, 0, none⟩), .pointer (some ⟨B.wb, 0, none⟩)] W fun e W' => (∃ u, e = .returned u) ∧ Moves (YInv B) { s with asks := s.asks ++ ⟨#[120]⟩, mem := s.mem.set i z } own W W' :=
  (yswap_any B s own W h hx hn i hi z).mono fun e W' ⟨he, h1, g, W1, ho, hg, hg'⟩ => ⟨he, ymoves2 h1 hg h.oyb hg' ho⟩
end Go.Proofs.YtjmnogpnjombgaaDoor
namespace Go.Proofs.YtjmnogpnjombgaaDoor
open Go.ChangeShapes Go.WideShapes Go.ChangeAt Go.RowKit Go.Deep
set_option linter.unusedVariables false
set_option maxRecDepth 100000
set_option linter.unusedSimpArgs false

theorem own_in {w : World} {base : Nat} {e : TypeId} {size n : Nat} {v : Value} {xs : List Value} (h : w.ownsRow base e size v n xs) : ∀ g, v.ownBlock = some g → base ≤ g ∧ g < w.heap.size := by
  intro g hg
  rcases h.2 with ⟨rfl, _⟩ | ⟨k, cap, cur, rfl, hk, hh, _⟩
  · cases hg
  · obtain rfl := Option.some.inj hg
    refine ⟨hk, ?_⟩
    rcases Nat.lt_or_ge k w.heap.size with hlt | hge
    · exact hlt
    · rw [Array.getElem?_eq_none hge] at hh; cases hh
theorem Moves.bind {σ : Type} {Inv : σ → (Nat → Prop) → World → Prop} {s s' : σ} {own : Nat → Prop} {W W1 W2 : World} (h : Moves Inv s own W W1) (k : ∀ own1, Inv s own1 W1 → Moves Inv s' own1 W1 W2) : Moves Inv s' own W W2 := by
  obtain ⟨own1, h1, h2, h3⟩ := h
  obtain ⟨own2, k1, k2, k3⟩ := k own1 h1
  refine ⟨own2, k1, fun j hj => ?_, h3.trans k3 h2⟩
  rcases k2 j hj with h | h
  · exact h2 j h
  · exact .inr (Nat.le_trans h3.size h)

/-- The events' row, and what it may be behind an append. -/
theorem YInv.grow6 {B : YB} {s : Yst} {own : Nat → Prop} {W W4 : World} {ev0 v4 : Value} {x : Evt} (h : YInv B s own W) (hc : W.cell? ⟨B.yb, 6, none⟩ = some ev0) (hg : W.grownBy W4 ev0.ownBlock)
    (hr : W4.ownsRow B.base 86 8 v4 (s.evs.length + 1) (s.evs.flatMap Evt.cells ++ x.cells)) (hv : v4.ownBlock = ev0.ownBlock ∨ ∃ g, v4.ownBlock = some g ∧ W.heap.size ≤ g) :
    Moves (YInv B) { s with evs := s.evs ++ [x] } own W (W4.setCell ⟨B.yb, 6, none⟩ v4) := by
  obtain ⟨bv, sv, ev, cur, h1, ho, h3, h4, h5, h6, b1, b2, b3, b4, b5, c0, hl, hn, hb, hm, hs, he⟩ := h
  have e6 : W.cell? ⟨B.yb, 6, none⟩ = some ev := (b1.cell 6).trans rfl
  obtain rfl : ev0 = ev := Option.some.inj (hc.symm.trans e6)
  have hyl := b1.lt
  have hy2 := (h1 _ ho.1).1
  have hg5 : W4.grownBy (W4.setCell ⟨B.yb, 6, none⟩ v4) (some B.yb) := set_only _
  have b1' := b1.grown hg (row_ne b1 he (by decide))
  have far : ∀ {g : Nat} {t : TypeId} {cs : Array Value}, Blk W g t cs → t ≠ 86 → t ≠ 43 → Blk (W4.setCell ⟨B.yb, 6, none⟩ v4) g t cs := fun hb h1 h2 =>
    (hb.grown hg (row_ne hb he h1)).far (hb.ne b1 h2) _
  have rw4 : ∀ {size n : Nat} {e : TypeId} {v : Value} {xs : List Value}, W4.ownsRow B.base e size v n xs → 43 ≠ e → (W4.setCell ⟨B.yb, 6, none⟩ v4).ownsRow B.base e size v n xs := fun h ht => row_grown h hg5 (row_ne b1' h ht)
  have hbl := fun g hg => (own_in hr g hg).2
  refine ⟨fun i => own i ∨ v4.ownBlock = some i, ⟨bv, sv, v4, cur, fun i hi => ?_, ⟨.inl ho.1, .inl ho.2.1, .inl ho.2.2.1, .inl ho.2.2.2.1, .inl ho.2.2.2.2⟩, fun g e => .inl (h3 g e), fun g e => .inl (h4 g e), fun g e => .inl (h5 g e), fun g e => .inr e, b1'.set_ 6 v4, far b2 (by decide) (by decide), far b3 (by decide) (by decide), far b4 (by decide) (by decide), far b5 (by decide) (by decide), c0, hl, hn,
    rw4 (own_apart hb he (by decide) hg) (by decide), rw4 (own_apart hm he (by decide) hg) (by decide), rw4 (own_apart hs he (by decide) hg) (by decide), rw4 ?_ (by decide)⟩, fun i hi => ?_, ?_⟩
  · rcases hi with hi | hi
    · exact ⟨(h1 i hi).1, Nat.lt_of_lt_of_le (h1 i hi).2 (Nat.le_trans hg.size hg5.size)⟩
    · refine ⟨?_, Nat.lt_of_lt_of_le (hbl i hi) hg5.size⟩
      rcases hv with e | ⟨g, e, hge⟩
      · exact (h1 i (h6 i (e.symm.trans hi))).1
      · obtain rfl := Option.some.inj (e.symm.trans hi)
        omega
  · rw [List.length_append, List.flatMap_append]
    exact hr
  · rcases hi with hi | hi
    · exact .inl hi
    · rcases hv with e | ⟨g, e, hge⟩
      · exact .inl (h6 i (e.symm.trans hi))
      · obtain rfl := Option.some.inj (e.symm.trans hi)
        exact .inr hge
  · refine ⟨hg.os, hg.tape, hg.output, Nat.le_trans hg.size hg5.size, fun i hi hni => ?_⟩
    exact (hg5.block i (Nat.lt_of_lt_of_le hi hg.size) (fun e => hni (by rw [Option.some.inj e]; exact ho.1))).trans (hg.block i hi (fun e => hni (h6 i e.symm)))
/-- The sleepers' row. -/
theorem YInv.grow5 {B : YB} {s : Yst} {own : Nat → Prop} {W W4 : World} {sv0 v4 : Value} {x : Int × Int} (h : YInv B s own W) (hc : W.cell? ⟨B.yb, 5, none⟩ = some sv0) (hg : W.grownBy W4 sv0.ownBlock)
    (hr : W4.ownsRow B.base 98 2 v4 (s.slp.length + 1) (s.slp.flatMap slpc ++ slpc x)) (hv : v4.ownBlock = sv0.ownBlock ∨ ∃ g, v4.ownBlock = some g ∧ W.heap.size ≤ g) :
    Moves (YInv B) { s with slp := s.slp ++ [x] } own W (W4.setCell ⟨B.yb, 5, none⟩ v4) := by
  obtain ⟨bv, sv, ev, cur, h1, ho, h3, h4, h5, h6, b1, b2, b3, b4, b5, c0, hl, hn, hb, hm, hs, he⟩ := h
  have e6 : W.cell? ⟨B.yb, 5, none⟩ = some sv := (b1.cell 5).trans rfl
  obtain rfl : sv0 = sv := Option.some.inj (hc.symm.trans e6)
  have hyl := b1.lt
  have hy2 := (h1 _ ho.1).1
  have hg5 : W4.grownBy (W4.setCell ⟨B.yb, 5, none⟩ v4) (some B.yb) := set_only _
  have b1' := b1.grown hg (row_ne b1 hs (by decide))
  have far : ∀ {g : Nat} {t : TypeId} {cs : Array Value}, Blk W g t cs → t ≠ 98 → t ≠ 43 → Blk (W4.setCell ⟨B.yb, 5, none⟩ v4) g t cs := fun hb h1 h2 =>
    (hb.grown hg (row_ne hb hs h1)).far (hb.ne b1 h2) _
  have rw4 : ∀ {size n : Nat} {e : TypeId} {v : Value} {xs : List Value}, W4.ownsRow B.base e size v n xs → 43 ≠ e → (W4.setCell ⟨B.yb, 5, none⟩ v4).ownsRow B.base e size v n xs := fun h ht => row_grown h hg5 (row_ne b1' h ht)
  have hbl := fun g hg => (own_in hr g hg).2
  refine ⟨fun i => own i ∨ v4.ownBlock = some i, ⟨bv, v4, ev, cur, fun i hi => ?_, ⟨.inl ho.1, .inl ho.2.1, .inl ho.2.2.1, .inl ho.2.2.2.1, .inl ho.2.2.2.2⟩, fun g e => .inl (h3 g e), fun g e => .inl (h4 g e), fun g e => .inr e, fun g e => .inl (h6 g e), b1'.set_ 5 v4, far b2 (by decide) (by decide), far b3 (by decide) (by decide), far b4 (by decide) (by decide), far b5 (by decide) (by decide), c0, hl, hn,
    rw4 (own_apart hb hs (by decide) hg) (by decide), rw4 (own_apart hm hs (by decide) hg) (by decide), rw4 ?_ (by decide), rw4 (own_apart he hs (by decide) hg) (by decide)⟩, fun i hi => ?_, ?_⟩
  · rcases hi with hi | hi
    · exact ⟨(h1 i hi).1, Nat.lt_of_lt_of_le (h1 i hi).2 (Nat.le_trans hg.size hg5.size)⟩
    · refine ⟨?_, Nat.lt_of_lt_of_le (hbl i hi) hg5.size⟩
      rcases hv with e | ⟨g, e, hge⟩
      · exact (h1 i (h5 i (e.symm.trans hi))).1
      · obtain rfl := Option.some.inj (e.symm.trans hi)
        omega
  · rw [List.length_append, List.flatMap_append]
    simpa using hr
  · rcases hi with hi | hi
    · exact .inl hi
    · rcases hv with e | ⟨g, e, hge⟩
      · exact .inl (h5 i (e.symm.trans hi))
      · obtain rfl := Option.some.inj (e.symm.trans hi)
        exact .inr hge
  · refine ⟨hg.os, hg.tape, hg.output, Nat.le_trans hg.size hg5.size, fun i hi hni => ?_⟩
    exact (hg5.block i (Nat.lt_of_lt_of_le hi hg.size) (fun e => hni (by rw [Option.some.inj e]; exact ho.1))).trans (hg.block i hi (fun e => hni (h5 i e.symm)))
/-- The sleepers' row, another one that lies in new memory. -/
theorem YInv.setSlp {B : YB} {s : Yst} {own : Nat → Prop} {W W4 : World} {v4 : Value} {l : List (Int × Int)} (h : YInv B s own W) (hB : Below W.heap.size W W4)
    (hr : W4.ownsRow B.base 98 2 v4 l.length (l.flatMap slpc)) (hv : ∀ g, v4.ownBlock = some g → W.heap.size ≤ g) :
    Moves (YInv B) { s with slp := l } own W (W4.setCell ⟨B.yb, 5, none⟩ v4) := by
  obtain ⟨bv, sv, ev, cur, h1, ho, h3, h4, h5, h6, b1, b2, b3, b4, b5, c0, hl, hn, hb, hm, hs, he⟩ := h
  have hyl := b1.lt
  have hy2 := (h1 _ ho.1).1
  have hg5 : W4.grownBy (W4.setCell ⟨B.yb, 5, none⟩ v4) (some B.yb) := set_only _
  have b1' := b1.below hB hyl
  have far : ∀ {g : Nat} {t : TypeId} {cs : Array Value}, Blk W g t cs → t ≠ 43 → Blk (W4.setCell ⟨B.yb, 5, none⟩ v4) g t cs := fun hb h2 =>
    (hb.below hB hb.lt).far (hb.ne b1 h2) _
  have rw4 : ∀ {size n : Nat} {e : TypeId} {v : Value} {xs : List Value}, W4.ownsRow B.base e size v n xs → 43 ≠ e → (W4.setCell ⟨B.yb, 5, none⟩ v4).ownsRow B.base e size v n xs := fun h ht => row_grown h hg5 (row_ne b1' h ht)
  have hbl := fun g hg => (own_in hr g hg).2
  refine ⟨fun i => own i ∨ v4.ownBlock = some i, ⟨bv, v4, ev, cur, fun i hi => ?_, ⟨.inl ho.1, .inl ho.2.1, .inl ho.2.2.1, .inl ho.2.2.2.1, .inl ho.2.2.2.2⟩, fun g e => .inl (h3 g e), fun g e => .inl (h4 g e), fun g e => .inr e, fun g e => .inl (h6 g e), b1'.set_ 5 v4, far b2 (by decide), far b3 (by decide), far b4 (by decide), far b5 (by decide), c0, hl, hn,
    rw4 (own_below hb (Nat.le_refl _) hB) (by decide), rw4 (own_below hm (Nat.le_refl _) hB) (by decide), rw4 hr (by decide), rw4 (own_below he (Nat.le_refl _) hB) (by decide)⟩, fun i hi => ?_, ?_⟩
  · rcases hi with hi | hi
    · exact ⟨(h1 i hi).1, Nat.lt_of_lt_of_le (h1 i hi).2 (Nat.le_trans hB.size hg5.size)⟩
    · have := hv i hi
      exact ⟨by omega, Nat.lt_of_lt_of_le (hbl i hi) hg5.size⟩
  · rcases hi with hi | hi
    · exact .inl hi
    · exact .inr (hv i hi)
  · refine ⟨hB.os, hB.tape, hB.output, Nat.le_trans hB.size hg5.size, fun i hi hni => ?_⟩
    exact (hg5.block i (Nat.lt_of_lt_of_le hi hB.size) (fun e => hni (by rw [Option.some.inj e]; exact ho.1))).trans (hB.block i hi)
/-- The buffer's row, another one that lies in new memory. -/
theorem YInv.setBuf {B : YB} {s : Yst} {own : Nat → Prop} {W W4 : World} {v4 : Value} {l : List (Int × Int)} (h : YInv B s own W) (hB : Below W.heap.size W W4)
    (hr : W4.ownsRow B.base 96 2 v4 l.length (l.flatMap entc)) (hv : ∀ g, v4.ownBlock = some g → W.heap.size ≤ g) :
    Moves (YInv B) { s with buf := l } own W (W4.setCell ⟨B.bb, 0, none⟩ v4) := by
  obtain ⟨bv, sv, ev, cur, h1, ho, h3, h4, h5, h6, b1, b2, b3, b4, b5, c0, hl, hn, hb, hm, hs, he⟩ := h
  have hyl := b5.lt
  have hy2 := (h1 _ ho.1).1
  have hy3 := (h1 _ ho.1).2
  have hg5 : W4.grownBy (W4.setCell ⟨B.bb, 0, none⟩ v4) (some B.bb) := set_only _
  have b5' := b5.below hB hyl
  have far : ∀ {g : Nat} {t : TypeId} {cs : Array Value}, Blk W g t cs → t ≠ 27 → Blk (W4.setCell ⟨B.bb, 0, none⟩ v4) g t cs := fun hb h2 =>
    (hb.below hB hb.lt).far (hb.ne b5 h2) _
  have rw4 : ∀ {size n : Nat} {e : TypeId} {v : Value} {xs : List Value}, W4.ownsRow B.base e size v n xs → 27 ≠ e → (W4.setCell ⟨B.bb, 0, none⟩ v4).ownsRow B.base e size v n xs := fun h ht => row_grown h hg5 (row_ne b5' h ht)
  have hbl := fun g hg => (own_in hr g hg).2
  have hc0 : 0 < cur.size := (Array.getElem?_eq_some_iff.1 c0).1
  refine ⟨fun i => own i ∨ v4.ownBlock = some i, ⟨v4, sv, ev, cur.setIfInBounds 0 v4, fun i hi => ?_, ⟨.inl ho.1, .inl ho.2.1, .inl ho.2.2.1, .inl ho.2.2.2.1, .inl ho.2.2.2.2⟩, fun g e => .inr e, fun g e => .inl (h4 g e), fun g e => .inl (h5 g e), fun g e => .inl (h6 g e), far b1 (by decide), far b2 (by decide), far b3 (by decide), far b4 (by decide), b5'.set_ 0 v4, by simp [hc0], hl, hn,
    rw4 hr (by decide), rw4 (own_below hm (Nat.le_refl _) hB) (by decide), rw4 (own_below hs (Nat.le_refl _) hB) (by decide), rw4 (own_below he (Nat.le_refl _) hB) (by decide)⟩, fun i hi => ?_, ?_⟩
  · rcases hi with hi | hi
    · exact ⟨(h1 i hi).1, Nat.lt_of_lt_of_le (h1 i hi).2 (Nat.le_trans hB.size hg5.size)⟩
    · have := hv i hi
      exact ⟨by omega, Nat.lt_of_lt_of_le (hbl i hi) hg5.size⟩
  · rcases hi with hi | hi
    · exact .inl hi
    · exact .inr (hv i hi)
  · refine ⟨hB.os, hB.tape, hB.output, Nat.le_trans hB.size hg5.size, fun i hi hni => ?_⟩
    exact (hg5.block i (Nat.lt_of_lt_of_le hi hB.size) (fun e => hni (by rw [Option.some.inj e]; exact ho.2.2.2.2))).trans (hB.block i hi)
end Go.Proofs.YtjmnogpnjombgaaDoor
