/- law08: what the laws have in common: the yard that In.world's world makes; its port; a step. -/
import Derived.Test.YtjmnogpnjombgaaDoorOneLaw
namespace Go.Proofs.YtjmnogpnjombgaaDoor
open Go.ChangeShapes Go.WideShapes Go.ChangeAt Go.RowKit Go.Deep
set_option linter.unusedVariables false
set_option maxRecDepth 100000
set_option linter.unusedSimpArgs false

theorem in_info : (Tryd.prog.info? 31).map (·.size) = some 15 := by kernel_rfl
theorem bufT_len (m room : Nat) (l : List (Int × Int)) : (bufT m room l).length ≤ room := by
  unfold bufT
  have key : ∀ (l acc : List (Int × Int)), acc.length ≤ room → (l.foldl (fun acc e => if acc.length < room ∧ 0 ≤ e.1 ∧ e.1 < (m : Int) then acc ++ [e] else acc) acc).length ≤ room := by
    intro l
    induction l with
    | nil => intro acc h; exact h
    | cons x r ih =>
      intro acc h
      rw [List.foldl_cons]
      apply ih
      split
      · rename_i hc
        rw [List.length_append]
        have := hc.1
        simp
        omega
      · exact h
  exact key l [] (Nat.zero_le _)
theorem bufT_in (m room : Nat) (l : List (Int × Int)) : ∀ e ∈ bufT m room l, 0 ≤ e.1 ∧ e.1 < (m : Int) := by
  unfold bufT
  have key : ∀ (l acc : List (Int × Int)), (∀ e ∈ acc, 0 ≤ e.1 ∧ e.1 < (m : Int)) → ∀ e ∈ l.foldl (fun acc e => if acc.length < room ∧ 0 ≤ e.1 ∧ e.1 < (m : Int) then acc ++ [e] else acc) acc, 0 ≤ e.1 ∧ e.1 < (m : Int) := by
    intro l
    induction l with
    | nil => intro acc h; exact h
    | cons x r ih =>
      intro acc h
      rw [List.foldl_cons]
      apply ih
      split
      · rename_i hc
        intro e he
        rcases List.mem_append.1 he with he | he
        · exact h e he
        · obtain rfl := List.mem_singleton.1 he
          exact hc.2
      · exact h
  exact key l [] (fun e he => by cases he)
/-- The yard's state at first. -/
def InD.st (q : InD) : Yst := ⟨(List.range q.m).map q.Z, bufT q.m (1 + q.z % 16) ((List.range q.bn).map q.Bf), (List.range q.an).map fun (i : Nat) => (1 + (i : Int), (q.Y i : Int)), [], ⟨#[]⟩⟩
/-- The world of an input, as a value, and what lies where. -/
def InWor (q : InD) (w w' : World) (v : Value) : Prop :=
  ∃ (fg m bl fc room : Nat) (mv cv tv bv sv : Value) (bvs : List Value), v = .agg #[cv, tv, .slice (some ⟨fg, 0, none⟩) bl fc, mv, .int .i64 (room : Int), sv, .slice none 0 0, .bool false] ∧ m = q.m ∧ room = 1 + q.z % 16 ∧ (∃ tA tl tcap, tv = .slice tA tl tcap ∧ 0 < tl ∧ tl ≤ 8) ∧
    (mv.oneCell' = true ∧ cv.oneCell' = true ∧ sv.oneCell' = true) ∧
    w'.ownsRow w.heap.size 27 1 (.slice (some ⟨fg, 0, none⟩) bl fc) bl bvs ∧ bvs[0]? = some bv ∧
    w'.ownsRow w.heap.size 96 2 bv q.st.buf.length (q.st.buf.flatMap entc) ∧ w'.ownsRow w.heap.size 22 1 mv m (q.st.mem.map fun z => .int .u32 z) ∧ w'.ownsRow w.heap.size 98 2 sv q.st.slp.length (q.st.slp.flatMap slpc) ∧ Below w.heap.size w w'
theorem world_q (q : InD) (ho : q.Ok) (w : World) (ha : q.At w) (hs : longB q.c.len q.bn q.m q.an = false) :
    Calls Tryd.prog 16 #[.agg q.arr] w fun e w' => ∃ v, e = .returned v ∧ InWor q w w' v := by
  unfold longB at hs
  simp only [Bool.or_eq_false_iff, decide_eq_false_iff_not] at hs
  refine (world_any q.t q.c q.bA q.bn q.bcap q.Bf q.mA q.m q.mcap q.Z q.z q.aA q.an q.acap q.Y w ha.b ha.m ha.a (by omega) (by omega) (by omega) ho.z ho.Y).mono ?_
  rintro e w' ⟨nb, cA, cc, tA, tc, fg, fc, bA', bc', mvA, mvc, sA, sc, rfl, rfl, r1, r2, r3, r4, r5, r6, hB⟩
  refine ⟨_, rfl, fg, q.m, q.an + 1, fc, 1 + q.z % 16, _, _, _, _, _, _, rfl, rfl, rfl, ⟨_, _, _, rfl, by omega, by omega⟩, ⟨rfl, rfl, rfl⟩, r3, rfl, r4, ?_, ?_, hB⟩
  · rw [show q.st.mem.map (fun z => Value.int .u32 z) = (List.range q.m).map fun i => Value.int .u32 (q.Z i) by simp [InD.st]]
    exact r5
  · rw [show q.st.slp.length = q.an by simp [InD.st]]
    exact r6
/-- A yard out of that world. -/
def yArr (v : Value) : Array Value := match v with
  | .agg a => a.push (.string ⟨#[]⟩)
  | _ => #[]
theorem InWor.pre {q : InD} {w w1 : World} {v : Value} (h : InWor q w w1 v) (h2 : 2 ≤ w.heap.size) {W : World} {yb : Nat} (hyb : w.heap.size ≤ yb) (hB : Below w1.heap.size w1 W) (hb : Blk W yb 43 (yArr v)) (hsm : q.m ≤ 300) :
    ∃ (B : YB) (own : Nat → Prop), B.yb = yb ∧ B.n = q.m ∧ B.room = 1 + q.z % 16 ∧ YBok B ∧ YPre B q.st own W ∧ (∀ i, own i → w.heap.size ≤ i) := by
  obtain ⟨fg, m, bl, fc, room, mv, cv, tv, bv, sv, bvs, rfl, rfl, rfl, ht, ho, r3, hbv, r4, r5, r6, hBw⟩ := h
  have hy := ypre_make (mem := q.st.mem) (buf := q.st.buf) (slp := q.st.slp) h2 hyb hb (own_below r3 (Nat.le_refl _) hB) hbv (by simp [InD.st]) rfl rfl (own_below r4 (Nat.le_refl _) hB) (own_below r5 (Nat.le_refl _) hB) (own_below r6 (Nat.le_refl _) hB)
  refine ⟨_, _, rfl, rfl, rfl, ⟨rfl, by show q.m ≤ _; omega, by show 1 + q.z % 16 ≤ _; omega, ?_⟩, hy, fun i hi => ?_⟩
  · obtain ⟨tA, tl, tcap, e, h1, h2⟩ := ht
    exact ⟨tA, tl, tcap, e, h1, by omega⟩
  · rcases hi with rfl | rfl | hi | hi | hi
    · exact hyb
    · exact own_ge r3 _ rfl
    · exact own_ge r4 i hi
    · exact own_ge r5 i hi
    · exact own_ge r6 i hi
theorem can_st (B : YB) (q : InD) (hn : B.n = q.m) (hs : longB q.c.len q.bn q.m q.an = false) : yCan B 3 q.st := by
  unfold longB at hs
  simp only [Bool.or_eq_false_iff, decide_eq_false_iff_not] at hs
  refine ⟨by show 0 + 3 ≤ 10000; omega, by show 0 + 3 ≤ 10000; omega, by show ((List.range q.an).map _).length + 3 ≤ 10000; simp; omega, ?_, ?_⟩
  · have := bufT_len q.m (1 + q.z % 16) ((List.range q.bn).map q.Bf)
    show (bufT _ _ _).length + 3 ≤ 10000
    omega
  · rw [hn]
    exact bufT_in _ _ _
theorem step_q (B : YB) (hB : YBok B) (q : InD) (hn : B.n = q.m) (t : Th) (ht : ∀ r, 0 ≤ t.regs r ∧ t.regs r ≤ 4294967295) (c : Cd) (hc : c.Ok) (own : Nat → Prop) (W : World) (hI : YInv B q.st own W) (hT : Tab W) (hca : c.At W) (hs : longB q.c.len q.bn q.m q.an = false) :
    Calls Tryd.prog 17 #[.agg t.cells.toArray, .slice c.A c.len c.cap, (yPv B).val B.n] W fun e W' => e = .returned (.agg (stepR (yOps B) q.st t c).1.cells.toArray) ∧ Moves (YInv B) (stepR (yOps B) q.st t c).2 own W W' :=
  step_yard B hB q.st own t c W hI hT hca hc ht (can_st B q hn hs)
theorem InD.range {q : InD} {W : World} {ib : Nat} (h : Blk W ib 31 q.arr) : W.rangeAt ib 0 q.t.cells := fun j v hv => by
  have hj := (List.getElem?_eq_some_iff.1 hv).1
  rw [th_len] at hj
  rw [Nat.zero_add, h.cell]
  rcases ten hj with rfl | rfl | rfl | rfl | rfl | rfl | rfl | rfl | rfl | rfl <;> exact hv
end Go.Proofs.YtjmnogpnjombgaaDoor
