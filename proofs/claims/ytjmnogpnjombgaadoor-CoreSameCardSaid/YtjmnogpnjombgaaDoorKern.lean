/- Queues of sleepers: in memory; find, Asleep, Sleep, All. -/
import Derived.Test.YtjmnogpnjombgaaDoorOwn
import Derived.Test.YtjmnogpnjombgaaDoorRow
import Derived.WalkSpells
namespace Go.Proofs.YtjmnogpnjombgaaDoor
open Go.ChangeShapes Go.WideShapes Go.ChangeAt Go.RowKit Go.Deep
set_option linter.unusedVariables false
set_option maxRecDepth 100000
set_option linter.unusedSimpArgs false

abbrev Slp := Int × Int
def slp (x : Slp) : List Value := [.int .i64 x.1, .int .i64 x.2]
/-- The place of the first one of that name, or the length. -/
def fnd (l : List Slp) (who : Int) : Nat := l.findIdx fun x => x.1 == who
theorem fnd_le (l : List Slp) (who : Int) : fnd l who ≤ l.length := List.findIdx_le_length
theorem fnd_hit {l : List Slp} {who : Int} {i : Nat} (hi : i < l.length) (h : (l.getD i (0, 0)).1 = who) (hn : ∀ j, j < i → (l.getD j (0, 0)).1 ≠ who) : fnd l who = i := by
  unfold fnd
  rw [List.findIdx_eq hi]
  rw [List.getD_eq_getElem?_getD, List.getElem?_eq_getElem hi] at h
  refine ⟨by simpa using h, fun j hj => ?_⟩
  have := hn j hj
  rw [List.getD_eq_getElem?_getD, List.getElem?_eq_getElem (show j < l.length by omega)] at this
  simpa using this
theorem fnd_miss {l : List Slp} {who : Int} (hn : ∀ j, j < l.length → (l.getD j (0, 0)).1 ≠ who) : fnd l who = l.length := by
  unfold fnd
  rw [List.findIdx_eq_length]
  intro x hx
  obtain ⟨j, hj, rfl⟩ := List.getElem_of_mem hx
  have := hn j hj
  rw [List.getD_eq_getElem?_getD, List.getElem?_eq_getElem hj] at this
  simpa using this
def fndI (l : List Slp) (who : Int) : Int := if fnd l who < l.length then (fnd l who : Int) else -1

/-- A queue: the receiver's block, the row of sleepers. -/
structure K (w : World) (kb base : Nat) (v : Value) (l : List Slp) : Prop where
  blk : Blk w kb 117 #[v]
  row : w.ownsRow base 159 2 v l.length (l.flatMap slp)
  lt : kb < base
theorem K.sle {w : World} {kb base : Nat} {v : Value} {l : List Slp} (h : K w kb base v l) : ∃ A cap, v = .slice A l.length cap ∧ l.length ≤ cap ∧ SlE w A l.length 2 (fun i => slp (l.getD i (0, 0))) := own_sle slp (fun _ => rfl) (0, 0) l h.row
theorem K.below {w w' : World} {kb base : Nat} {v : Value} {l : List Slp} (h : K w kb base v l) (hb : Below w.heap.size w w') : K w' kb base v l := ⟨h.blk.below hb h.blk.lt, own_below h.row (Nat.le_refl _) hb, h.lt⟩
/-- What a step leaves: all but the receiver's block and the row's. -/
structure KStep (w w' : World) (kb : Nat) (v : Value) : Prop where
  os : w'.os = w.os
  tape : w'.tape = w.tape
  output : w'.output = w.output
  size : w.heap.size ≤ w'.heap.size
  block : ∀ i, i < w.heap.size → i ≠ kb → some i ≠ v.ownBlock → w'.heap[i]? = w.heap[i]?
theorem KStep.of_below {w w' : World} {kb : Nat} {v : Value} (h : Below w.heap.size w w') : KStep w w' kb v := ⟨h.os, h.tape, h.output, h.size, fun i hi _ _ => h.block i hi⟩
theorem KStep.below {w w' : World} {kb base B : Nat} {v : Value} {l : List Slp} (h : KStep w w' kb v) (hk : K w kb base v l) (hB : B ≤ kb) : Below B w w' :=
  ⟨h.os, h.tape, h.output, h.size, fun i hi => h.block i (Nat.lt_of_lt_of_le hi (Nat.le_trans hB (Nat.le_of_lt hk.blk.lt))) (by omega) (fun e => by have := own_ge hk.row i e.symm; have := hk.lt; omega)⟩
/-- Rows of other types stay. -/
theorem KStep.row {w w' : World} {kb base b e size n : Nat} {v x : Value} {l : List Slp} {xs : List Value} (h : KStep w w' kb v) (hk : K w kb base v l) (hr : w.ownsRow b e size x n xs) (h1 : e ≠ 159) (h2 : e ≠ 117) : w'.ownsRow b e size x n xs := by
  obtain ⟨q1, q2⟩ := hr
  refine ⟨q1, ?_⟩
  rcases q2 with q2 | ⟨g, cap, cur, hv, hgb, hh, q⟩
  · exact .inl q2
  · have hlt : g < w.heap.size := by
      rcases Nat.lt_or_ge g w.heap.size with hlt | hge
      · exact hlt
      · rw [Array.getElem?_eq_none hge] at hh; cases hh
    refine .inr ⟨g, cap, cur, hv, hgb, (h.block g hlt (fun e0 => ?_) (fun e0 => ?_)).trans hh, q⟩
    · subst e0
      have hb := hk.blk
      unfold Blk at hb
      rw [hb] at hh
      have := Option.some.inj hh
      injection this with _ e1 _
      exact h2 e1.symm
    · rcases hk.row.2 with ⟨rfl, _⟩ | ⟨g', cap', cur', rfl, _, hh', _⟩
      · cases e0
      · obtain rfl : g = g' := Option.some.inj e0
        rw [hh'] at hh
        have := Option.some.inj hh
        injection this with _ e1 _
        exact h1 e1.symm
theorem KStep.trans {w w' w'' : World} {kb : Nat} {v v' : Value} (h : KStep w w' kb v) (k : KStep w' w'' kb v') (hv : ∀ i, v'.ownBlock = some i → v.ownBlock = some i ∨ w.heap.size ≤ i) : KStep w w'' kb v :=
  ⟨k.os.trans h.os, k.tape.trans h.tape, k.output.trans h.output, Nat.le_trans h.size k.size, fun i hi h1 h2 => (k.block i (Nat.lt_of_lt_of_le hi h.size) h1 (fun e => by
    rcases hv i e.symm with h3 | h3
    · exact h2 h3.symm
    · omega)).trans (h.block i hi h1 h2)⟩

theorem find1_any (who a b : Int) (c : Nat) (w : World) (hc : w.cell? ⟨c, 0, none⟩ = some (.int .i64 who)) (hlt : c < w.heap.size) :
    Calls Tryd.prog 142 #[.agg #[.int .i64 a, .int .i64 b], .pointer (some ⟨c, 0, none⟩)] w fun e w' => e = .returned (.bool (a == who)) ∧ Below w.heap.size w w' := by
  have hc' : (w.alloc (.cells #[.int .i64 a, .int .i64 b] 159)).cell? ⟨c, 0, none⟩ = some (.int .i64 who) := keepAt ((Below.refl w.heap.size w).alloc (Nat.le_refl _) _) hlt hc
  go_enter Tryd.func142, Tryd.ntmps142
  go_wp2
  go_ret
  exact ⟨rfl, (Below.refl _ _).alloc (Nat.le_refl _) _⟩

set_option maxHeartbeats 1000000 in
theorem index_find (A : Option Addr) (len cap : Nat) (l : List Slp) (hl : l.length = len) (hm : len ≤ 1000000) (who : Int) (c : Nat) (w : World) (hs : SlE w A len 2 (fun i => slp (l.getD i (0, 0)))) (hc : w.cell? ⟨c, 0, none⟩ = some (.int .i64 who)) (hlt : c < w.heap.size) :
    Calls Tryd.prog 141 #[.slice A len cap, .func (.func 142) #[] #[.pointer (some ⟨c, 0, none⟩)]] w fun e w' => e = .returned (.int .i64 (fndI l who)) ∧ Below w.heap.size w w' := by
  have HS := Lib.hid hs
  have HC := Lib.hid hc
  have HL := Lib.hid hl
  clear hs hc hl
  go_enter Tryd.func141, Tryd.ntmps141
  go_wp2
  go_loopw [8] (fun i wr => ∃ k : Nat, k ≤ len ∧ i = .int .i64 k ∧ (∀ j, j < k → (l.getD j (0, 0)).1 ≠ who) ∧ Below w.heap.size w wr) (fun i _ => len - (intOf i).toNat)
  case atStart => exact ⟨0, Nat.zero_le _, rfl, fun j hj => absurd hj (by omega), Below.refl _ _⟩
  case round =>
    obtain ⟨k, hk, rfl, hn, hB⟩ := hrel
    have HN := Lib.hid hn
    clear hn
    by_cases hkl : k < len
    · have hk1 : (k : Int) < (len : Int) := by omega
      have hk0 : (0 : Int) ≤ (k : Int) := by omega
      obtain ⟨b, off, rfl, hb, hcc⟩ := HS.out (by omega)
      obtain ⟨⟨x, y⟩, hxy⟩ : ∃ p, l.getD k (0, 0) = p := ⟨_, rfl⟩
      have k0 := hcc k hkl 0 (.int .i64 (l.getD k (0, 0)).1) rfl
      have k1 := hcc k hkl 1 (.int .i64 (l.getD k (0, 0)).2) rfl
      rw [hxy] at k0 k1
      dsimp only at k0 k1
      rw [Nat.add_zero] at k0
      replace k0 := keepAt hB hb k0
      replace k1 := keepAt hB hb k1
      have hcw := keepAt hB hlt HC.out
      have hltw : c < wr.heap.size := Nat.lt_of_lt_of_le hlt hB.size
      have HX := Lib.hid hxy
      clear hcc hxy
      have cF := find1_any who x y c wr hcw hltw
      by_cases hx : x = who
      · subst hx
        rw [show (x == x) = true from by simp] at cF
        go_wp2_with fail
        refine cF.mono ?_
        rintro e w1 ⟨rfl, hb1⟩
        go_wp2
        go_ret
        have hf : fndI l x = (k : Int) := by
          unfold fndI
          rw [fnd_hit (by rw [HL.out]; exact hkl) (by rw [HX.out]) HN.out, if_pos (by rw [HL.out]; exact hkl)]
        exact ⟨by rw [hf]; rfl, step_below hB hb1⟩
      · have hxb : (x == who) = false := by simp [hx]
        rw [hxb] at cF
        clear hxb
        go_wp2_with fail
        refine cF.mono ?_
        rintro e w1 ⟨rfl, hb1⟩
        have hB1 := step_below hB hb1
        go_wp2
        go_roundw
        case rel =>
          refine ⟨k + 1, by omega, by go_num, fun j hj => ?_, hB1⟩
          rcases (by omega : j < k ∨ j = k) with h | rfl
          · exact HN.out j h
          · rw [HX.out]; exact hx
        case measure => simp [intOf]; omega
    · obtain rfl : len = k := by omega
      have hk1 : ¬ (len : Int) < (len : Int) := by omega
      go_wp2
      go_ret
      have hf : fndI l who = -1 := by
        unfold fndI
        rw [fnd_miss (by rw [HL.out]; exact HN.out), if_neg (by omega)]
      exact ⟨by rw [hf]; rfl, hB⟩

theorem find_any (kb base : Nat) (v : Value) (l : List Slp) (hm : l.length ≤ 1000000) (who : Int) (w : World) (h : K w kb base v l) :
    Calls Tryd.prog 113 #[.pointer (some ⟨kb, 0, none⟩), .int .i64 who] w fun e w' => e = .returned (.int .i64 (fndI l who)) ∧ Below w.heap.size w w' := by
  obtain ⟨A, cap, rfl, _, hs⟩ := h.sle
  have hB := (Below.refl w.heap.size w).alloc (Nat.le_refl _) (Obj.cells #[.int .i64 who] 3)
  have c0 := keepAt hB h.blk.lt ((h.blk.cell 0).trans rfl)
  have hs1 : SlE (w.alloc (Obj.cells #[.int .i64 who] 3)) A l.length 2 (fun i => slp (l.getD i (0, 0))) := SlE.step hs ((Below.refl _ w).alloc (Nat.le_refl _) _)
  have cI := index_find A l.length cap l rfl hm who w.heap.size _ hs1 ((Blk.new w 3 #[.int .i64 who]).cell 0) (Blk.new w 3 #[.int .i64 who]).lt
  have HI := Lib.hid cI
  clear cI hs hs1 h
  go_enter Tryd.func113, Tryd.ntmps113
  go_wp2_with fail
  refine HI.out.mono ?_
  rintro e w1 ⟨rfl, hb1⟩
  go_wp2
  go_ret
  exact ⟨rfl, step_below hB hb1⟩
end Go.Proofs.YtjmnogpnjombgaaDoor
