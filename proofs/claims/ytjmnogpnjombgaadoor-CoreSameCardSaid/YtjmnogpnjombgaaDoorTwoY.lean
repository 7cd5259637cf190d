/- law08: two yards of one input beside each other. -/
import Derived.Test.YtjmnogpnjombgaaDoorLawC
import Derived.Test.YtjmnogpnjombgaaDoorSameLaw
import Derived.Test.YtjmnogpnjombgaaDoorCodeRow
namespace Go.Proofs.YtjmnogpnjombgaaDoor
open Go.ChangeShapes Go.WideShapes Go.ChangeAt Go.RowKit Go.Deep
set_option linter.unusedVariables false
set_option maxRecDepth 100000
set_option linter.unusedSimpArgs false

theorem InWor.size {q : InD} {w w1 : World} {v : Value} (h : InWor q w w1 v) : w.heap.size ≤ w1.heap.size := by
  obtain ⟨fg, m, bl, fc, room, mv, cv, tv, bv, sv, bvs, rfl, rfl, rfl, ht, ho, r3, hbv, r4, r5, r6, hBw⟩ := h
  exact hBw.size
theorem InWor.pre2 {q : InD} {w w1 : World} {v : Value} (h : InWor q w w1 v) (h2 : 2 ≤ w.heap.size) {W : World} {yb : Nat} (hyb : w.heap.size ≤ yb) (hB : Below w1.heap.size w1 W) (hb : Blk W yb 43 (yArr v)) (hsm : q.m ≤ 300) :
    ∃ (B : YB) (own : Nat → Prop), B.yb = yb ∧ B.n = q.m ∧ B.room = 1 + q.z % 16 ∧ YBok B ∧ YPre B q.st own W ∧ (∀ i, own i → w.heap.size ≤ i ∧ (i < w1.heap.size ∨ i = yb)) := by
  obtain ⟨fg, m, bl, fc, room, mv, cv, tv, bv, sv, bvs, rfl, rfl, rfl, ht, ho, r3, hbv, r4, r5, r6, hBw⟩ := h
  have hy := ypre_make (mem := q.st.mem) (buf := q.st.buf) (slp := q.st.slp) h2 hyb hb (own_below r3 (Nat.le_refl _) hB) hbv (by simp [InD.st]) rfl rfl (own_below r4 (Nat.le_refl _) hB) (own_below r5 (Nat.le_refl _) hB) (own_below r6 (Nat.le_refl _) hB)
  refine ⟨_, _, rfl, rfl, rfl, ⟨rfl, by show q.m ≤ _; omega, by show 1 + q.z % 16 ≤ _; omega, ?_⟩, hy, fun i hi => ?_⟩
  · obtain ⟨tA, tl, tcap, e, h1, h2⟩ := ht
    exact ⟨tA, tl, tcap, e, h1, by omega⟩
  · rcases hi with rfl | rfl | hi | hi | hi
    · exact ⟨hyb, .inr rfl⟩
    · exact ⟨own_ge r3 _ rfl, .inl (own_in r3 _ rfl).2⟩
    · exact ⟨own_ge r4 i hi, .inl (own_in r4 i hi).2⟩
    · exact ⟨own_ge r5 i hi, .inl (own_in r5 i hi).2⟩
    · exact ⟨own_ge r6 i hi, .inl (own_in r6 i hi).2⟩
theorem pc_ins (B : YB) (s : Yst) (t : Th) (i : Ins) (hj : jmpB i.op = false) : (insR (yOps B) s t i).1.pc = t.pc ∨ (insR (yOps B) s t i).1.pc = t.pc + 1 := by
  unfold insR
  by_cases h1 : DrainP i.op ∧ (yOps B).empty s = false
  · rw [if_pos h1]; exact .inl rfl
  rw [if_neg h1]
  by_cases h2 : i.op = 17 ∧ (yOps B).room s = false
  · rw [if_pos h2]; exact .inl rfl
  rw [if_neg h2]
  by_cases h3 : i.op = 0
  · rw [if_pos h3]; exact .inl rfl
  have hjn : ¬ jmpB i.op = true := by rw [hj]; decide
  rw [if_neg h3, if_neg hjn]
  by_cases h4 : askB i.op = true
  · rw [if_pos h4]; exact .inr rfl
  · rw [if_neg h4]; exact .inr rfl
theorem pc_step (B : YB) (s : Yst) (t : Th) (c : Cd) (hj : jmpB (c.F t.pc.toNat).op = false) : (stepR (yOps B) s t c).1.pc = t.pc ∨ (stepR (yOps B) s t c).1.pc = t.pc + 1 := by
  unfold stepR
  by_cases h1 : t.st ≠ 0
  · rw [if_pos h1]; exact .inl rfl
  rw [if_neg h1]
  by_cases h2 : t.pc < 0 ∨ (c.len : Int) ≤ t.pc
  · rw [if_pos h2]; exact .inl rfl
  rw [if_neg h2]
  by_cases h3 : rightB (c.F t.pc.toNat) c.len = false
  · rw [if_pos h3]; exact .inl rfl
  rw [if_neg h3]
  by_cases h4 : askB (c.F t.pc.toNat).op = true ∧ ((yOps B).size : Int) ≤ addrF t (c.F t.pc.toNat)
  · rw [if_pos h4]; exact .inl rfl
  rw [if_neg h4]
  exact pc_ins B s t _ hj
theorem list_mid (n : Nat) (c d : Cd) (p : Nat) (hp : p < c.len) : (List.replicate n ins0 ++ c.list ++ d.list).getD (p + n) ins0 = c.F p := by
  have hl := c.list_len
  rw [List.getD_eq_getElem?_getD, List.getElem?_append_left (by simp [Cd.list_len]; omega), List.getElem?_append_right (by simp), List.length_replicate, Nat.add_sub_cancel, ← List.getD_eq_getElem?_getD, c.list_get p hp]
/-- A yard as sameWorld reads it. -/
theorem YInv.sw {B : YB} {s : Yst} {own : Nat → Prop} {W : World} (h : YInv B s own W) : ∃ (mA : Option Addr) (mc : Nat) (bA : Option Addr) (bc : Nat) (sA : Option Addr) (sc : Nat) (eA : Option Addr) (ec : Nat),
    W.rangeAt B.yb 0 [B.cv, B.tv, .slice (some ⟨B.bb, 0, none⟩) B.bl B.bcap, .slice mA s.mem.length mc, .int .i64 (B.room : Int), .slice sA s.slp.length sc, .slice eA s.evs.length ec, .bool false] ∧ W.cell? ⟨B.yb, 6, none⟩ = some (.slice eA s.evs.length ec) ∧ W.cell? ⟨B.yb, 8, none⟩ = some (.string s.asks) ∧
    W.cell? ⟨B.bb, 0, none⟩ = some (.slice bA s.buf.length bc) ∧ Sl W mA s.mem.length (fun i => .int .u32 (s.mem.getD i 0)) ∧ SlE W bA s.buf.length 2 (fun i => entc (s.buf.getD i (0, 0))) ∧ SlE W sA s.slp.length 2 (fun i => slpc (s.slp.getD i (0, 0))) ∧ 0 < B.bl ∧ B.yb < W.heap.size ∧ s.mem.length = B.n := by
  obtain ⟨bv, sv, ev, cur, h1, ho, h3, h4, h5, h6, b1, b2, b3, b4, b5, c0, hl, hn, hb, hm, hs, he⟩ := h
  obtain ⟨mA, mc, em, _, hms⟩ := own_sl hm
  obtain ⟨bA, bc, rfl, _, hbs⟩ := own_sle entc (fun _ => rfl) (0, 0) s.buf hb
  obtain ⟨sA, sc, rfl, _, hss⟩ := own_sle slpc (fun _ => rfl) (0, 0) s.slp hs
  obtain ⟨eA, ec, rfl, _, _⟩ := own_cap he
  rw [em] at b1
  refine ⟨mA, mc, bA, bc, sA, sc, eA, ec, fun j v hv => ?_, (b1.cell 6).trans rfl, (b1.cell 8).trans rfl, (b5.cell 0).trans c0, ?_, hbs, hss, hl, b1.lt, hn⟩
  · have hj := (List.getElem?_eq_some_iff.1 hv).1
    rw [Nat.zero_add, b1.cell]
    rcases (by simpa using hj : j < 8) |> (fun h => (by omega : j = 0 ∨ j = 1 ∨ j = 2 ∨ j = 3 ∨ j = 4 ∨ j = 5 ∨ j = 6 ∨ j = 7)) with rfl | rfl | rfl | rfl | rfl | rfl | rfl | rfl <;> exact hv
  · rw [Nat.mul_one] at hms
    exact hms.congr fun i hi => by simp [List.getD_eq_getElem?_getD, List.getElem?_eq_getElem hi]
theorem YInv.drew' {B : YB} {s : Yst} {own : Nat → Prop} {W : World} (h : YInv B s own W) : YInv B s own W.drew := YInv.keep _ _ _ _ _ h (Stay.refl own W).drew
def Small (a b : Yst) : Prop := b.slp.length ≤ a.slp.length + 1 ∧ b.buf.length ≤ a.buf.length + 1
theorem Small.same {a b : Yst} (h1 : b.slp = a.slp) (h2 : b.buf = a.buf) : Small a b := ⟨by rw [h1]; exact Nat.le_succ _, by rw [h2]; exact Nat.le_succ _⟩
theorem small_flush (s : Yst) (x : ByteArray) : Small s (yflush { s with asks := x }) := by
  unfold yflush
  split
  · exact .same rfl rfl
  · rename_i y l h
    have h' : s.buf = y :: l := h
    exact ⟨Nat.le_succ _, by show l.length ≤ _; rw [h']; simp; omega⟩
theorem small_store (B : YB) (s : Yst) (a : Nat) (v : Int) : Small s ((yOps B).store s a v) := by
  show Small s (if a < B.n then _ else s : Yst)
  split
  · exact ⟨Nat.le_succ _, by show (s.buf ++ _).length ≤ _; simp⟩
  · exact .same rfl rfl
theorem small_wake (B : YB) (s : Yst) (a : Nat) (v : Int) : Small s ((yOps B).wake s a v).2 :=
  ⟨by show (wk _ _ s.slp).1.length ≤ _; have := wk_len (a : Int) v.toNat s.slp; omega, Nat.le_succ _⟩
theorem small_ins (B : YB) (s : Yst) (t : Th) (i : Ins) : Small s (insR (yOps B) s t i).2 := by
  unfold insR
  split
  · exact small_flush s _
  split
  · exact small_flush s _
  split
  · exact .same rfl rfl
  split
  · exact .same rfl rfl
  split
  · unfold asksR lockS waitR
    repeat' split
    all_goals first
      | exact .same rfl rfl
      | exact small_store B s _ _
      | exact small_wake B s _ _
      | exact ⟨by show (s.slp ++ _).length ≤ _; simp, Nat.le_succ _⟩
  · unfold plainR
    repeat' split
    all_goals exact .same rfl rfl
theorem step_can (B : YB) (q : InD) (hn : B.n = q.m) (t : Th) (c : Cd) (hs : longB q.c.len q.bn q.m q.an = false) : (stepR (yOps B) q.st t c).2.slp.length ≤ 10000 ∧ (stepR (yOps B) q.st t c).2.buf.length ≤ 10000 := by
  have h := can_st B q hn hs
  have hS : Small q.st (stepR (yOps B) q.st t c).2 := by
    unfold stepR
    repeat' split
    all_goals first
      | exact .same rfl rfl
      | exact small_ins B _ t _
  obtain ⟨_, _, h3, h4, _⟩ := h
  obtain ⟨h5, h6⟩ := hS
  omega
theorem range_below {w w' : World} {g : Nat} {cs : List Value} (hW : Below w.heap.size w w') (hlt : g < w.heap.size) (h : w.rangeAt g 0 cs) : w'.rangeAt g 0 cs := fun j v hv => keepAt hW hlt (h j v hv)
/-- Two yards, apart. -/
structure TwoY (q : InD) (lo : Nat) (W : World) (B1 B2 : YB) (own1 own2 : Nat → Prop) : Prop where
  n1 : B1.n = q.m
  n2 : B2.n = q.m
  r : B1.room = B2.room
  ok1 : YBok B1
  ok2 : YBok B2
  p1 : YPre B1 q.st own1 W
  p2 : YPre B2 q.st own2 W
  apart : ∀ i, own1 i → ¬ own2 i
  lo1 : ∀ i, own1 i → lo ≤ i
  lo2 : ∀ i, own2 i → lo ≤ i
theorem two_of {q : InD} (hm : q.m ≤ 300) {Wa Wb Wc Wd W : World} {v1 v2 : Value} (h2 : 2 ≤ Wa.heap.size) (h1 : InWor q Wa Wb v1) (h2' : InWor q Wc Wd v2) (hbc : Wb.heap.size ≤ Wc.heap.size) (hB1 : Below Wb.heap.size Wb W) (hB2 : Below Wd.heap.size Wd W) {yb1 yb2 : Nat}
    (hb1 : Blk W yb1 43 (yArr v1)) (hb2 : Blk W yb2 43 (yArr v2)) (l1 : Wb.heap.size ≤ yb1) (l2 : Wd.heap.size ≤ yb2) (l3 : yb1 < Wc.heap.size ∨ Wd.heap.size ≤ yb1) (hne : yb1 ≠ yb2) :
    ∃ B1 B2 own1 own2, B1.yb = yb1 ∧ B2.yb = yb2 ∧ TwoY q Wa.heap.size W B1 B2 own1 own2 := by
  have s1 := h1.size
  have s2 := h2'.size
  obtain ⟨B1, own1, e1, n1, r1, k1, p1, o1⟩ := h1.pre2 h2 (by omega) hB1 hb1 hm
  obtain ⟨B2, own2, e2, n2, r2, k2, p2, o2⟩ := h2'.pre2 (by omega) (by omega) hB2 hb2 hm
  exact ⟨B1, B2, own1, own2, e1, e2, n1, n2, by rw [r1, r2], k1, k2, p1, p2, fun i h1 h2 => by have := o1 i h1; have := o2 i h2; omega, fun i h => (o1 i h).1, fun i h => by have := (o2 i h).1; omega⟩
theorem yOps_eq {B1 B2 : YB} (hn : B1.n = B2.n) (hr : B1.room = B2.room) : yOps B1 = yOps B2 := by
  unfold yOps
  rw [hn, hr]
theorem step_at (B : YB) (hB : YBok B) (q : InD) (hn : B.n = q.m) (t : Th) (ht : ∀ r, 0 ≤ t.regs r ∧ t.regs r ≤ 4294967295) (c : Cd) (hc : c.Ok) (t2 : Th) (s2 : Yst) (he : stepR (yOps B) q.st t c = (t2, s2)) (hs : longB q.c.len q.bn q.m q.an = false) (wb xb ab : Nat) (own : Nat → Prop) (W : World) (hI : YInv (B.at wb xb ab) q.st own W) (hT : Tab W) (hca : c.At W) :
    Calls Tryd.prog 17 #[.agg t.cells.toArray, .slice c.A c.len c.cap, (yPv (B.at wb xb ab)).val B.n] W fun e W' => e = .returned (.agg (thArr t2)) ∧ ∃ own2, YInv (B.at wb xb ab) s2 own2 W' ∧ (∀ j, own2 j → own j ∨ W.heap.size ≤ j) ∧ KeepOut own W W' := by
  have h := step_q (B.at wb xb ab) ⟨hB.base, hB.n, hB.room, hB.tv⟩ q hn t ht c hc own W hI hT hca hs
  rw [show stepR (yOps (B.at wb xb ab)) q.st t c = (t2, s2) from he] at h
  exact h.mono fun e W' ⟨h1, own2, h2, h3, h4⟩ => ⟨h1, own2, h2, h3, h4⟩

theorem YPre.drew {B : YB} {s : Yst} {own : Nat → Prop} {W : World} (h : YPre B s own W) : YPre B s own W.drew := h.keep (Stay.refl own W).drew
end Go.Proofs.YtjmnogpnjombgaaDoor
