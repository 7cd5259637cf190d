/- A code that a law puts together, piece by piece. seq: more, begin, read (printed by gen/bldf.py). obj.Right, obj.Calls at some kinds; spin.May. -/
import Derived.Test.YtmhfpjnkjlhbpaaGreatDoorQb33
import Derived.Test.YtmhfpjnkjlhbpaaGreatDoorQb31
import Derived.Test.YtmhfpjnkjlhbpaaGreatDoorQb08
import Derived.Deep.LoopGhost
namespace Go.Proofs.YtmhfpjnkjlhbpaaGreatDoor
open Go.ChangeShapes Go.WideShapes Go.ChangeAt Go.RowKit Go.Deep
set_option linter.unusedVariables false
set_option maxRecDepth 100000
set_option linter.unusedSimpArgs false

structure CW (W0 W : World) (A : Option Addr) (N c : Nat) (L : List Ins) : Prop where
  n : N = L.length
  own : W.ownsRow W0.heap.size 75 5 (.slice A N c) N (L.flatMap Ins.cells)
  below : Below W0.heap.size W0 W
section
variable {W0 W W' : World} {A : Option Addr} {N c : Nat} {L : List Ins}
theorem CW.start (W0 : World) : CW W0 W0 none 0 0 [] := ⟨rfl, ⟨rfl, .inl ⟨rfl, rfl⟩⟩, Below.refl _ _⟩
theorem CW.step (h : CW W0 W A N c L) (hb : Below W.heap.size W W') : CW W0 W' A N c L := ⟨h.n, own_below h.own (Nat.le_refl _) hb, step_below h.below hb⟩
theorem CW.app {ops : Array Oper} {rest : List Oper} {o : Oper} {a : Act} {Q : Exit → Act → World → Prop} (h : CW W0 W A N c L) (hgd : o.guard = none) (s x : Operand)
    (ho : o.op = .call { callee := .builtin .append, args := #[s, x], argTypes := #[50, 50] }) (l2 : List Ins) (m M cx : Nat) (hm : l2.length = m) (hM : M = N + m) (hs : a.eval s = .slice A N c) {Ax : Option Addr} (hx : a.eval x = .slice Ax m cx)
    (hr : Sl W Ax (m * 5) (fun k => (l2.flatMap Ins.cells).getD k undef)) (hb : M ≤ 1000000)
    (K : ∀ A' c' w', CW W0 w' A' M c' (L ++ l2) → wpList Tryz.prog ops Q rest (a.put o.dst (.slice A' M c')) w') : wpList Tryz.prog ops Q (o :: rest) a W := by
  obtain ⟨hn, hown, hbel⟩ := h
  subst hm hn
  refine wpList_append_ins hgd s x ho W0.heap.size (.slice A L.length c) L l2 hs hown Ax cx hx hr (by omega) hbel.size ?_
  intro A' c' w' h1 h2 h3
  have e : (L ++ l2).length = M := by rw [List.length_append]; exact hM.symm
  rw [e] at h1 ⊢
  exact K A' c' w' ⟨e.symm, h1, hbel.trans (h3.mono (Nat.le_refl _))⟩
theorem CW.app1 {ops : Array Oper} {rest : List Oper} {o : Oper} {a : Act} {Q : Exit → Act → World → Prop} (h : CW W0 W A N c L) (i : Ins) (M : Nat) (hM : M = N + 1) (hgd : o.guard = none) (s x : Operand)
    (ho : o.op = .call { callee := .builtin .append, args := #[s, x], argTypes := #[50, 50] }) (hs : a.eval s = .slice A N c) (hx : a.eval x = .slice (some ⟨W.heap.size, 0, none⟩) 1 1) (hb : M ≤ 1000000)
    (K : ∀ A' c' w', CW W0 w' A' M c' (L ++ [i]) → wpList Tryz.prog ops Q rest (a.put o.dst (.slice A' M c')) w') : wpList Tryz.prog ops Q (o :: rest) a (W.alloc (.cells i.cells.toArray 75)) :=
  (h.step ((Below.refl W.heap.size W).alloc (Nat.le_refl _) _)).app hgd s x ho [i] 1 M 1 rfl hM hs hx (sl_one W i) hb K
end
structure CodeIn (W : World) (v : Value) (C : List Ins) (m : Nat) : Prop where
  is_ : ∃ og cap, v = .slice (some ⟨og, 0, none⟩) m cap ∧ og < W.heap.size ∧ m ≤ cap ∧ cap ≤ maxLen ∧ SlE W (some ⟨og, 0, none⟩) m 5 (fun i => (C.getD i default).cells)
  len : C.length = m
theorem CodeIn.of {W W' : World} {v : Value} {C : List Ins} (h : OutI W v C W') {m : Nat} (hm : C.length = m) : CodeIn W' v C m := by
  obtain ⟨og, cap, cs, rfl, hog, _, hcap, hcm, _, hins⟩ := h
  subst hm
  exact ⟨⟨og, cap, rfl, hog.lt, hcap, hcm, sle_ins hog hins⟩, rfl⟩
theorem CodeIn.step {W W' : World} {v : Value} {C : List Ins} {m : Nat} (h : CodeIn W v C m) (hb : Below W.heap.size W W') : CodeIn W' v C m := by
  obtain ⟨⟨og, cap, e, hog, hcap, hcm, hs⟩, hl⟩ := h
  exact ⟨⟨og, cap, e, Nat.lt_of_lt_of_le hog hb.size, hcap, hcm, SlE.step hs hb⟩, hl⟩
theorem CodeIn.moved {W : World} {v : Value} {C : List Ins} {m : Nat} (h : CodeIn W v C m) (hok : ∀ x ∈ C, x.Ok) (hm : m ≤ 100000) (z : Int) (hz0 : 0 ≤ z) (hz1 : z ≤ 4294967295) (hT : Tab W) :
    Calls Tryz.prog 35 #[v, .int .i64 z] W fun e W' => ∃ cs : Array Value, e = .returned (.slice (some ⟨W.heap.size, 0, none⟩) m m) ∧ Blk W' W.heap.size 75 cs ∧ (∀ i, i < m → InsAt cs i (movedI z (C.getD i default))) ∧ Below W.heap.size W W' := by
  obtain ⟨⟨og, cap, rfl, hog, hcap, hcm, hs⟩, hl⟩ := h
  have hget : ∀ i, i < m → C.getD i default ∈ C := fun i hi => by
    have hi' : i < C.length := by omega
    rw [List.getD_eq_getElem?_getD, List.getElem?_eq_getElem hi']; exact List.getElem_mem hi'
  refine (moved_any ⟨some ⟨og, 0, none⟩, m, cap, fun i => C.getD i default⟩ z ⟨hcap, hcm, fun i hi => hok _ (hget i hi)⟩ hm hz0 hz1 W hT hs).mono ?_
  rintro e W' ⟨cs, h1, h2, _, h3, h4⟩
  exact ⟨cs, h1, h2, h3, h4⟩
/-! ### a program grows by a code -/
theorem grown_below {W0 W W' : World} {r : Option Nat} (h : W0.grownBy W r) (hb : Below W.heap.size W W') : W0.grownBy W' r :=
  ⟨hb.os.trans h.os, hb.tape.trans h.tape, hb.output.trans h.output, Nat.le_trans h.size hb.size, fun i hi hn => (hb.block i (Nat.lt_of_lt_of_le hi h.size)).trans (h.block i hi hn)⟩
theorem grown_row {W0 W W' : World} {r q : Option Nat} (h : W0.grownBy W r) (hg : W.grownBy W' q) (hq : ∀ g, q = some g → W0.heap.size ≤ g ∨ r = some g) : W0.grownBy W' r :=
  ⟨hg.os.trans h.os, hg.tape.trans h.tape, hg.output.trans h.output, Nat.le_trans h.size hg.size, fun i hi hn => (hg.block i (Nat.lt_of_lt_of_le hi h.size) (fun e => by
    rcases hq i e.symm with q | q
    · omega
    · exact hn q.symm)).trans (h.block i hi hn)⟩
theorem CdRow.far {W W' : World} {base : Nat} {v : Value} {L : List (List Ins)} {g : Nat} {t : TypeId} {cs : Array Value} (h : CdRow W base v L) (hb : Blk W g t cs) (h1 : t ≠ 50) (h2 : t ≠ 75) (hg : W.grownBy W' (some g)) : CdRow W' base v L := by
  obtain ⟨vals, q1, q2, q3⟩ := h
  exact ⟨vals, q1, row_grown q2 hg (row_ne hb q2 h1), fun i hi => row_grown (q3 i hi) hg (row_ne hb (q3 i hi) h2)⟩
theorem CdRow.cap {W : World} {base : Nat} {v : Value} {L : List (List Ins)} (h : CdRow W base v L) : ∃ A c, v = .slice A L.length c := by
  obtain ⟨vals, q1, q2, q3⟩ := h
  obtain ⟨A, c, e, _, _⟩ := own_cap q2
  exact ⟨A, c, e⟩
theorem CdRow.app {W0 W : World} {base : Nat} {A AA : Option Addr} {n N c cv : Nat} {L : List (List Ins)} {l : List Ins} {ops : Array Oper} {rest : List Oper} {o : Oper} {a : Act} {Q : Exit → Act → World → Prop} (h : CdRow W base (.slice A n cv) L) (hn : n = L.length) (hc : CW W0 W AA N c l) (hb0 : base ≤ W0.heap.size) (hgd : o.guard = none) (s x : Operand)
    (ho : o.op = .call { callee := .builtin .append, args := #[s, x], argTypes := #[26, 26] }) (hs : a.eval s = .slice A n cv) (hx : a.eval x = .slice (some ⟨W.heap.size, 0, none⟩) 1 1) (hL : n ≤ 100)
    (K : ∀ A' c' w', CdRow w' base (.slice A' (n + 1) c') (L ++ [l]) → (∀ pb t cs, Blk W pb t cs → t ≠ 50 → Blk w' pb t cs) → (∀ (W5 : World) (r : Option Nat), W5.heap.size = base → W5.grownBy W r → W5.grownBy w' r) → wpList Tryz.prog ops Q rest (a.put o.dst (.slice A' (n + 1) c')) w') : wpList Tryz.prog ops Q (o :: rest) a (W.alloc (.cells #[.slice AA N c] 50)) := by
  have hal := (Below.refl W.heap.size W).alloc (Nat.le_refl _) (.cells #[.slice AA N c] 50)
  obtain ⟨vals, q1, q2, q3⟩ := h.below hal
  have hcs := hc.step hal
  subst hn
  obtain ⟨i0, hi, hy0, hy1, hy2⟩ := info_parts slc_info5
  have hcn := hcs.n
  have hbW : base ≤ W.heap.size := Nat.le_trans hb0 hc.below.size
  refine wpList_append_sl (W.alloc (.cells #[.slice AA N c] 50)) hgd s x 26 ho base 50 i0 _ 1 24 Tryz.underlying26 hi hy0 hy1 hy2 rfl (by omega) (.slice A L.length cv) L.length vals hs q2 (some ⟨W.heap.size, 0, none⟩) 1 1 (fun _ => .slice AA N c) hx (fun _ => ⟨_, 0, rfl, by simp, fun i hi => ?_⟩) (fun _ _ => rfl) (by unfold maxLen; omega) (by omega) (by simp; omega) ?_
  · obtain rfl : i = 0 := by omega
    exact ((Blk.new W 50 #[.slice AA N c]).cell 0).trans rfl
  intro v' w' h1 h2 _
  have e1 : (List.range (1 * 1)).map (fun _ => Value.slice AA N c) = [Value.slice AA N c] := rfl
  rw [e1] at h1
  obtain ⟨A', c', rfl, _, _⟩ := own_cap h1
  have hown : (W.alloc (.cells #[.slice AA N c] 50)).ownsRow W0.heap.size 75 5 (.slice AA N c) l.length (l.flatMap Ins.cells) := hcn ▸ hcs.own
  refine K A' c' w' (CdRow.snoc q1 q2 q3 hown hb0 h2 h1) (fun pb t cs hb ht => ?_) (fun W5 r hz hg => ?_)
  · exact (hb.alloc _).grown h2 (row_ne (hb.alloc _) q2 ht)
  · exact grown_row (grown_below hg hal) h2 (fun g e => .inl (by rw [hz]; exact (own_in q2 g e).1))
theorem map_range {C : List Ins} {m : Nat} (h : C.length = m) (f : Ins → Ins) : C.map f = (List.range m).map fun i => f (C.getD i default) := by
  subst h
  refine List.ext_getElem? fun i => ?_
  rw [List.getElem?_map, List.getElem?_map]
  rcases Nat.lt_or_ge i C.length with c | c
  · rw [List.getElem?_range c, List.getElem?_eq_getElem c]
    simp [List.getD_eq_getElem?_getD, List.getElem?_eq_getElem c]
  · rw [List.getElem?_eq_none c, List.getElem?_eq_none (l := List.range C.length) (by simpa using c)]; rfl
end Go.Proofs.YtmhfpjnkjlhbpaaGreatDoor
namespace Go.Proofs.YtmhfpjnkjlhbpaaGreatDoor
open Go.ChangeShapes Go.WideShapes Go.ChangeAt Go.RowKit Go.Deep
set_option linter.unusedVariables false
set_option maxRecDepth 100000
set_option linter.unusedSimpArgs false

def BB.smore (b : BB) (base : Int) : BB := (b.ins ⟨1, 4, 0, 0, 1⟩).ins ⟨20, 4, 8, 0, base⟩
def BB.sbegin (b : BB) (base : Int) : BB := ((((b.at n_spin).ins ⟨1, 4, 0, 0, 0⟩).ins ⟨21, 4, 8, 5, base + 1⟩).go 15 4 n_spin).smore base
def BB.sreads (b : BB) (base : Int) (k : Nat) : BB := (List.range k).foldl (fun (b : BB) (i : Nat) => b.ins ⟨16, (i : Int), 8, 0, base + 2 + (i : Int)⟩) b
theorem BB.sreads_succ (b : BB) (base : Int) (k : Nat) : b.sreads base (k + 1) = (b.sreads base k).ins ⟨16, (k : Int), 8, 0, base + 2 + (k : Int)⟩ := by
  unfold BB.sreads; rw [List.range_succ, List.foldl_append]; rfl
def BB.sread1 (b : BB) (base : Int) : BB := ((((b.at n_again).ins ⟨16, 4, 8, 0, base⟩).ins ⟨1, 5, 0, 0, 1⟩).ins ⟨6, 6, 4, 5, 0⟩).go 15 6 n_again
def BB.sread (b : BB) (base : Int) (n : Nat) : BB := ((((b.sread1 base).sreads base n).ins ⟨16, 5, 8, 0, base⟩).ins ⟨12, 6, 4, 5, 0⟩).go 14 6 n_again
theorem BB.Room.smore {b : BB} {n : Nat} (h : b.Room (n + 2)) (base : Int) : (b.smore base).Room n := BB.Room.ins (BB.Room.ins h _) _
theorem BB.Room.sbegin {b : BB} {n : Nat} (h : b.Room (n + 6)) (base : Int) : (b.sbegin base).Room n := BB.Room.smore (BB.Room.go (BB.Room.ins (BB.Room.ins (BB.Room.at (n := n + 5) h _) _) _) _ _ _) _
theorem BB.Room.sread1 {b : BB} {n : Nat} (h : b.Room (n + 5)) (base : Int) : (b.sread1 base).Room n := BB.Room.go (BB.Room.ins (BB.Room.ins (BB.Room.ins (BB.Room.at (n := n + 4) h _) _) _) _) _ _ _
theorem BB.Room.sreads {b : BB} {n k : Nat} (h : b.Room (n + k)) (base : Int) : (b.sreads base k).Room n := by
  induction k generalizing n with
  | zero => exact h
  | succ k ih => rw [BB.sreads_succ]; exact BB.Room.ins (ih (n := n + 1) (h.mono (by omega))) _
theorem BB.Room.sread {b : BB} {n k : Nat} (h : b.Room (n + 8 + k)) (base : Int) : (b.sread base k).Room n := BB.Room.go (BB.Room.ins (BB.Room.ins (BB.Room.sreads (n := n + 3) (k := k) (BB.Room.sread1 (n := n + 3 + k) (h.mono (by omega)) _) _) _) _) _ _ _

set_option maxHeartbeats 2000000 in
theorem b_smore {N0 bb : Nat} {b : BB} {n : Nat} (base : Int) {W : World} (h : BI N0 W bb b) (hr : b.Room (n + 2)) (hb : 0 ≤ base ∧ base ≤ 4294960000) : Bls 85 #[.pointer (some ⟨bb, 0, none⟩), .int .u32 base] N0 bb b (b.smore base) W := by
  unfold Bls
  go_enter Tryz.func85, Tryz.ntmps85
  go_wp2_with fail
  refine Bls.step (b_set (n := n + 1) _ _ h hr) ?_
  rintro _ W1 ⟨⟨u0, rfl⟩, h1, b1⟩
  have r1 := BI.rins (n := n + 1) h1 hr
  go_wp2_with fail
  refine Bls.step (b_ask (n := n + 0) _ _ _ h1 r1) ?_
  rintro _ W2 ⟨⟨u1, rfl⟩, h2, b2⟩
  have r2 := BI.rins (n := n + 0) h2 r1
  go_wp2
  go_end0
  exact ⟨⟨_, rfl⟩, h2, b1.trans (b2)⟩

set_option maxHeartbeats 2000000 in
theorem b_sbegin {N0 bb : Nat} {b : BB} {n : Nat} (base : Int) {W : World} (h : BI N0 W bb b) (hr : b.Room (n + 6)) (hb : 0 ≤ base ∧ base ≤ 4294960000) (hf : b.places.lookup n_spin = none) : Bls 83 #[.pointer (some ⟨bb, 0, none⟩), .int .u32 base] N0 bb b (b.sbegin base) W := by
  unfold Bls
  go_enter Tryz.func83, Tryz.ntmps83
  go_wp2_with fail
  try rw [str_spin]
  refine Bls.step (b_at (n := n + 5) n_spin nm_spin h hr hf) ?_
  rintro _ W1 ⟨⟨u0, rfl⟩, h1, b1⟩
  have r1 := BI.rat (n := n + 5) h1 hr
  go_wp2_with fail
  refine Bls.step (b_set (n := n + 4) _ _ h1 r1) ?_
  rintro _ W2 ⟨⟨u1, rfl⟩, h2, b2⟩
  have r2 := BI.rins (n := n + 4) h2 r1
  go_wp2_with fail
  refine Bls.step (b_cas (n := n + 3) _ _ _ h2 r2) ?_
  rintro _ W3 ⟨⟨u2, rfl⟩, h3, b3⟩
  have r3 := BI.rins (n := n + 3) h3 r2
  go_wp2_with fail
  try rw [str_spin]
  refine Bls.step (b_go (n := n + 2) _ _ n_spin h3 r3) ?_
  rintro _ W4 ⟨⟨u3, rfl⟩, h4, b4⟩
  have r4 := BI.rgo (n := n + 2) h4 r3
  go_wp2_with fail
  refine Bls.step (b_smore (n := n + 0) _ h4 r4 hb) ?_
  rintro _ W5 ⟨⟨u4, rfl⟩, h5, b5⟩
  have r5 := BB.Room.smore r4 base
  go_wp2
  go_end0
  exact ⟨⟨_, rfl⟩, h5, b1.trans (b2.trans (b3.trans (b4.trans (b5))))⟩

set_option maxHeartbeats 2000000 in
theorem b_sread {N0 bb : Nat} {b : BB} {n k : Nat} (base : Int) {W : World} (h : BI N0 W bb b) (hr : b.Room (n + 8 + k)) (hb : 0 ≤ base ∧ base ≤ 4294960000) (hk : k ≤ 100) (hf : b.places.lookup n_again = none) : Bls 88 #[.pointer (some ⟨bb, 0, none⟩), .int .u32 base, .int .i64 (k : Int)] N0 bb b (b.sread base k) W := by
  unfold Bls
  go_enter Tryz.func88, Tryz.ntmps88
  go_wp2_with fail
  try rw [str_again]
  refine Bls.step (b_at (n := n + 3 + k + 4) n_again nm_again h (hr.mono (show n + 3 + k + 5 ≤ n + 8 + k by omega)) hf) ?_
  rintro _ W1 ⟨⟨u0, rfl⟩, h1, b1⟩
  have r1 := BI.rat (n := n + 3 + k + 4) h1 (hr.mono (show n + 3 + k + 5 ≤ n + 8 + k by omega))
  go_wp2_with fail
  refine Bls.step (b_ask (n := n + 3 + k + 3) _ _ _ h1 r1) ?_
  rintro _ W2 ⟨⟨u1, rfl⟩, h2, b2⟩
  have r2 := BI.rins (n := n + 3 + k + 3) h2 r1
  go_wp2_with fail
  refine Bls.step (b_set (n := n + 3 + k + 2) _ _ h2 r2) ?_
  rintro _ W3 ⟨⟨u2, rfl⟩, h3, b3⟩
  have r3 := BI.rins (n := n + 3 + k + 2) h3 r2
  go_wp2_with fail
  refine Bls.step (b_alu (n := n + 3 + k + 1) _ _ _ _ h3 r3) ?_
  rintro _ W4 ⟨⟨u3, rfl⟩, h4, b4⟩
  have r4 := BI.rins (n := n + 3 + k + 1) h4 r3
  go_wp2_with fail
  try rw [str_again]
  refine Bls.step (b_go (n := n + 3 + k + 0) _ _ n_again h4 r4) ?_
  rintro _ W5 ⟨⟨u4, rfl⟩, h5, b5⟩
  have r5 := BI.rgo (n := n + 3 + k + 0) h5 r4
  have hb5 := b1.trans (b2.trans (b3.trans (b4.trans b5)))
  have H5 := Lib.hid (And.intro h5 (And.intro r5 hb5))
  clear h h1 h2 h3 h4 h5 b1 b2 b3 b4 b5 r1 r2 r3 r4 r5 hb5
  go_wp2
  go_loopw [20] (fun v wr => ∃ j : Nat, j ≤ k ∧ v = .int .i64 j ∧ BI N0 wr bb ((b.sread1 base).sreads base j) ∧ BelF N0 W wr) (fun v _ => k - (intOf v).toNat)
  case atStart => exact ⟨0, Nat.zero_le _, rfl, H5.out.1, H5.out.2.2⟩
  case round =>
    obtain ⟨j, hj, rfl, hI, hB⟩ := hrel
    have rj : ((b.sread1 base).sreads base j).Room (n + 3 + (k - j)) := BB.Room.sreads (n := n + 3 + (k - j)) (k := j) (show (b.sread1 base).Room _ from (H5.out.2.1 : (b.sread1 base).Room (n + 3 + k + 0)).mono (by omega)) base
    by_cases hlt : j < k
    · have hjk : (j : Int) < (k : Int) := by omega
      have hj100 : (j : Int) ≤ 100 := by omega
      go_wp2_with fail
      refine Bls.step (b_ask (n := n + 3 + (k - j) - 1) _ _ _ hI (rj.mono (by omega))) ?_
      rintro _ W7 ⟨⟨u7, rfl⟩, h7, b7⟩
      go_wp2
      go_roundw
      case rel =>
        refine ⟨j + 1, by omega, by go_num, ?_, hB.trans b7⟩
        rw [BB.sreads_succ]
        exact h7
      case measure => simp [intOf]; omega
    · obtain rfl : j = k := by omega
      have r6 : ((b.sread1 base).sreads base j).Room (n + 3) := rj.mono (by omega)
      clear hlt rj
      go_wp2_with fail
      refine Bls.step (b_ask (n := n + 2) _ _ _ hI r6) ?_
      rintro _ W7 ⟨⟨u7, rfl⟩, h7, b7⟩
      have r7 := BI.rins (n := n + 2) h7 r6
      go_wp2_with fail
      refine Bls.step (b_alu (n := n + 1) _ _ _ _ h7 r7) ?_
      rintro _ W8 ⟨⟨u8, rfl⟩, h8, b8⟩
      have r8 := BI.rins (n := n + 1) h8 r7
      go_wp2_with fail
      try rw [str_again]
      refine Bls.step (b_go (n := n) _ _ n_again h8 r8) ?_
      rintro _ W9 ⟨⟨u9, rfl⟩, h9, b9⟩
      go_wp2
      go_end0
      exact ⟨⟨_, rfl⟩, h9, hB.trans (b7.trans (b8.trans b9))⟩

end Go.Proofs.YtmhfpjnkjlhbpaaGreatDoor
namespace Go.Proofs.YtmhfpjnkjlhbpaaGreatDoor
open Go.ChangeShapes Go.WideShapes Go.ChangeAt Go.RowKit Go.Deep
set_option linter.unusedVariables false
set_option maxRecDepth 100000
set_option linter.unusedSimpArgs false

def onL : List ByteArray := [⟨#[]⟩, ⟨#[116, 97, 115]⟩, ⟨#[116, 116, 97, 115]⟩, ⟨#[116, 105, 99, 107, 101, 116]⟩, ⟨#[109, 99, 115]⟩, ⟨#[99, 108, 104]⟩, ⟨#[112, 101, 116, 101, 114, 115, 111, 110]⟩, ⟨#[100, 101, 107, 107, 101, 114]⟩, ⟨#[98, 105, 97, 115]⟩, ⟨#[115, 101, 113]⟩, ⟨#[109, 117, 116, 101, 120]⟩, ⟨#[115, 101, 109]⟩, ⟨#[99, 111, 110, 100]⟩, ⟨#[98, 97, 114, 114, 105, 101, 114]⟩, ⟨#[114, 119]⟩, ⟨#[111, 110, 99, 101]⟩]
def onS (i : Nat) : ByteArray := onL.getD i ⟨#[]⟩
def ONam (W : World) : Prop := 3 ≤ W.heap.size ∧ ∀ i, i < 16 → W.cell? ⟨2, i, none⟩ = some (.string (onS i))
theorem ONam.step {w w1 : World} (h : ONam w) (hb : Below w.heap.size w w1) : ONam w1 := ⟨Nat.le_trans h.1 hb.size, fun i hi => keepAt hb (World.block_lt_of_cell? w _ (h.2 i hi)) (h.2 i hi)⟩
def objA (k n a b : Int) : Value := .agg #[.int .i64 k, .int .i64 n, .int .i64 a, .int .i64 b]
theorem in_any (n lo hi : Int) (b : Bool) (hb : decide (lo ≤ n ∧ n ≤ hi) = b) (W : World) : Calls Tryz.prog 136 #[.int .i64 n, .int .i64 lo, .int .i64 hi] W fun e W' => e = .returned (.bool b) ∧ W' = W := by
  subst hb
  by_cases h1 : lo ≤ n
  · by_cases h2 : n ≤ hi
    · rw [decide_eq_true ⟨h1, h2⟩]
      go_enter Tryz.func136, Tryz.ntmps136
      go_wp2
      go_ret
      exact ⟨rfl, rfl⟩
    · rw [decide_eq_false (fun h => h2 h.2)]
      go_enter Tryz.func136, Tryz.ntmps136
      go_wp2
      go_ret
      exact ⟨rfl, rfl⟩
  · rw [decide_eq_false (fun h => h1 h.1)]
    go_enter Tryz.func136, Tryz.ntmps136
    go_wp2
    go_ret
    exact ⟨rfl, rfl⟩

set_option maxHeartbeats 2000000 in
theorem right_seq (n threads : Int) (hn : 1 ≤ n ∧ n ≤ 3) (ht : 1 ≤ threads ∧ threads ≤ 8) (W : World) : Calls Tryz.prog 91 #[objA 9 n 0 0, .int .i64 threads] W fun e W' => e = .returned (.bool true) ∧ Below W.heap.size W W' := by
  have hq := Blk.new W 46 #[.int .i64 9, .int .i64 n, .int .i64 0, .int .i64 0]
  have hB := (Below.refl W.heap.size W).alloc (Nat.le_refl _) (.cells #[.int .i64 9, .int .i64 n, .int .i64 0, .int .i64 0] 46)
  have q0 := (hq.cell 0).trans rfl
  have q1 := (hq.cell 1).trans rfl
  have q2 := (hq.cell 2).trans rfl
  have q3 := (hq.cell 3).trans rfl
  unfold objA
  go_enter Tryz.func91, Tryz.ntmps91
  go_wp2_with fail
  refine (in_any n 1 3 true (decide_eq_true hn) _).mono ?_
  rintro e W1 ⟨rfl, rfl⟩
  go_wp2
  go_ret
  exact ⟨rfl, hB⟩

set_option maxHeartbeats 1000000 in
theorem calls_seq (W : World) : Calls Tryz.prog 92 #[.int .i64 9] W fun e W' => ∃ g, e = .returned (.slice (some ⟨g, 0, none⟩) 4 4) ∧ Blk W' g 3 #[.int .i64 1, .int .i64 2, .int .i64 3, .int .i64 4] ∧ Below W.heap.size W W' := by
  have hB := (Below.refl W.heap.size W).alloc (Nat.le_refl _) (.cells #[.int .i64 1, .int .i64 2, .int .i64 3, .int .i64 4] 3)
  go_enter Tryz.func92, Tryz.ntmps92
  go_wp2
  go_ret
  exact ⟨_, rfl, Blk.new _ _ _, hB⟩

def mayB (rb : Bool) (cl : List Int) (call threads t : Int) : Bool := decide (0 ≤ t ∧ t < threads) && (rb && cl.contains call)
set_option maxHeartbeats 2000000 in
theorem may_any (k n a b : Int) (rb : Bool) (cl : List Int) (hcl : cl.length ≤ 100) (call threads t : Int) (W : World) (P : World → Prop) (hP : ∀ W1 W2, P W1 → Below W1.heap.size W1 W2 → P W2) (h0 : P W)
    (hR : ∀ W1, P W1 → Calls Tryz.prog 91 #[objA k n a b, .int .i64 threads] W1 fun e W' => e = .returned (.bool rb) ∧ Below W1.heap.size W1 W')
    (hC : ∀ W1, P W1 → Calls Tryz.prog 92 #[.int .i64 k] W1 fun e W' => ∃ g, e = .returned (.slice (some ⟨g, 0, none⟩) cl.length cl.length) ∧ Blk W' g 3 (cl.map (Value.int .i64)).toArray ∧ Below W1.heap.size W1 W') :
    Calls Tryz.prog 52 #[objA k n a b, .int .i64 call, .int .i64 threads, .int .i64 t] W fun e W' => e = .returned (.bool (mayB rb cl call threads t)) ∧ Below W.heap.size W W' := by
  have hq := Blk.new W 46 #[.int .i64 k, .int .i64 n, .int .i64 a, .int .i64 b]
  have hB := (Below.refl W.heap.size W).alloc (Nat.le_refl _) (.cells #[.int .i64 k, .int .i64 n, .int .i64 a, .int .i64 b] 46)
  have q0 := (hq.cell 0).trans rfl
  have q1 := (hq.cell 1).trans rfl
  have q2 := (hq.cell 2).trans rfl
  have q3 := (hq.cell 3).trans rfl
  unfold objA at *
  have HP := Lib.hid hP
  have HW := Lib.hid (hP _ _ h0 hB)
  have HR := Lib.hid hR
  have HC := Lib.hid hC
  clear hR hC hP h0
  by_cases h1 : t < 0
  · rw [show mayB rb cl call threads t = false from by unfold mayB; rw [decide_eq_false (by omega)]; rfl]
    go_enter Tryz.func52, Tryz.ntmps52
    go_wp2
    go_ret
    exact ⟨rfl, hB⟩
  by_cases h2 : threads ≤ t
  · rw [show mayB rb cl call threads t = false from by unfold mayB; rw [decide_eq_false (by omega)]; rfl]
    go_enter Tryz.func52, Tryz.ntmps52
    go_wp2
    go_ret
    exact ⟨rfl, hB⟩
  rw [show mayB rb cl call threads t = (rb && cl.contains call) from by unfold mayB; rw [decide_eq_true (by omega)]; rfl]
  go_enter Tryz.func52, Tryz.ntmps52
  go_wp2_with fail
  refine (HR.out _ HW.out).mono ?_
  rintro e W1 ⟨rfl, hB1⟩
  have hq1 := hq.below hB1 hq.lt
  have hB2 := step_below hB hB1
  have HW1 := Lib.hid (HP.out _ _ HW.out hB1)
  clear q0 q1 q2 q3 hB hB1 hq
  cases rb with
  | false =>
    go_wp2
    go_ret
    exact ⟨rfl, hB2⟩
  | true =>
    have q0 := (hq1.cell 0).trans rfl
    go_wp2_with fail
    refine (HC.out _ HW1.out).mono ?_
    rintro e W2 ⟨g, rfl, hg, hB3⟩
    have hB4 := step_below hB2 hB3
    obtain ⟨m, hm⟩ : ∃ m, cl.length = m := ⟨_, rfl⟩
    rw [hm]
    rw [hm] at hcl
    clear hB2 hB3 HW1 hq1 q0 HC HR HP HW
    have HG := Lib.hid hg
    clear hg
    go_wp2
    go_loopw [28] (fun v wr => ∃ j : Nat, j ≤ m ∧ v = .int .i64 j ∧ wr = W2 ∧ ∀ i, i < j → cl[i]? ≠ some call) (fun v _ => m - (intOf v).toNat)
    case atStart => exact ⟨0, Nat.zero_le _, rfl, rfl, fun i hi => absurd hi (by omega)⟩
    case round =>
      obtain ⟨j, hj, rfl, rfl, hno⟩ := hrel
      by_cases hlt : j < m
      · have hx : cl[j]? = some (cl[j]'(by omega)) := List.getElem?_eq_getElem (by omega)
        generalize cl[j]'(by omega) = x at hx
        have c0 : wr.cell? ⟨g, j, none⟩ = some (.int .i64 x) := (HG.out.cell j).trans (by simp [hx])
        have hjm : (j : Int) < (m : Int) := by omega
        by_cases hxc : x = call
        · subst hxc
          have : cl.contains x = true := by
            rw [List.contains_iff_mem]
            exact List.mem_of_getElem? hx
          have HT := Lib.hid this
          clear hno hx this
          go_wp2
          go_ret
          exact ⟨by rw [HT.out]; rfl, hB4⟩
        · have HN := Lib.hid (And.intro hno hx)
          clear hno hx
          go_wp2
          go_roundw
          case rel =>
            refine ⟨j + 1, by omega, by go_num, by trivial, fun i hi => ?_⟩
            by_cases hij : i = j
            · subst hij; rw [HN.out.2]; intro e; exact hxc (Option.some.inj e)
            · exact HN.out.1 i (by omega)
          case measure => simp [intOf]; omega
      · obtain rfl : j = m := by omega
        have : cl.contains call = false := by
          rw [Bool.eq_false_iff]
          intro e
          rw [List.contains_iff_mem] at e
          obtain ⟨i, hi, e⟩ := List.mem_iff_getElem.1 e
          exact hno i (by omega) (by rw [List.getElem?_eq_getElem hi, e])
        have HT := Lib.hid this
        clear hno this
        go_wp2
        go_ret
        exact ⟨by rw [HT.out]; rfl, hB4⟩

def callsL (k : Nat) : List Int := if k = 12 then [5, 6, 7, 8] else if k = 13 then [9] else if k = 14 then [1, 2, 3] else [9, 10]
end Go.Proofs.YtmhfpjnkjlhbpaaGreatDoor
