/- Put and Pop. -/
import Derived.Test.YtaanmamgmjhegaaBuf
import Derived.Deep.RegionHeld3
import Derived.Deep.RegionWith
namespace Go.Proofs.Ytaanmamgmjhegaa
open Go.ChangeShapes Go.WideShapes Go.ChangeAt Go.RowKit Go.Deep
set_option linter.unusedVariables false
set_option linter.unusedSimpArgs false

/-- What Put's frame holds: the buffer, the entry, the result. -/
structure PutW (w W : World) (cs : Array Value) (x : Ent) (old : Array Value) : Prop where
  b : Blk W w.heap.size 29 cs
  x : Blk W (w.heap.size + 1) 26 #[.int .i64 x.1, .int .u32 x.2]
  r : Blk W (w.heap.size + 1 + 1) 29 old
  B : Below w.heap.size w W
theorem putW_new (w : World) (cs : Array Value) (x : Ent) : PutW w (((w.alloc (Obj.cells cs 29)).alloc (Obj.cells #[.int .i64 x.1, .int .u32 x.2] 26)).alloc (Obj.cells (emptyCells 0) 29)) cs x (emptyCells 0) := by
  have e1 : (w.alloc (Obj.cells cs 29)).heap.size = w.heap.size + 1 := by simp
  have e2 : ((w.alloc (Obj.cells cs 29)).alloc (Obj.cells #[.int .i64 x.1, .int .u32 x.2] 26)).heap.size = w.heap.size + 1 + 1 := by simp
  refine ⟨((Blk.new w _ _).alloc _).alloc _, ?_, ?_, (((Below.refl _ _).alloc (Nat.le_refl _) _).alloc (by simp) _).alloc (by simp; omega) _⟩
  · have := (Blk.new (w.alloc (Obj.cells cs 29)) 26 #[.int .i64 x.1, .int .u32 x.2]).alloc (Obj.cells (emptyCells 0) 29)
    rw [e1] at this
    exact this
  · have := Blk.new ((w.alloc (Obj.cells cs 29)).alloc (Obj.cells #[.int .i64 x.1, .int .u32 x.2] 26)) 29 (emptyCells 0)
    rw [e2] at this
    exact this
theorem PutW.step {w W W1 : World} {cs old : Array Value} {x : Ent} (h : PutW w W cs x old) (hb : Below W.heap.size W W1) : PutW w W1 cs x old :=
  ⟨h.b.below hb h.b.lt, h.x.below hb h.x.lt, h.r.below hb h.r.lt, step_below h.B hb⟩

theorem put_full (cs : Array Value) (l : List Ent) (room : Int) (h : Buf cs l room) (x : Ent) (hf : room ≤ l.length) (w : World) :
    Calls Try.prog 13 #[.agg cs, .agg #[.int .i64 x.1, .int .u32 x.2]] w fun e w' => e = .returned (.tuple #[.agg cs, .bool false]) ∧ Below w.heap.size w w' := by
  have hb0 := Blk.new w 29 cs
  have hP := putW_new w cs x
  have hE := empty_buf 0 (by decide) (by decide)
  have cF := full_any cs l room h
  rw [decide_eq_true hf] at cF
  go_enter Try.func13, Try.ntmps13
  go_wp2_with (refine wpList_load_row rfl 29 (.tmp 2) rfl _ rfl 29 cs (0, 0) _ (show Blk _ _ _ _ from (hb0.alloc _).alloc _) Try.underlying29 rfl h.info ?_)
  refine (cF _).mono ?_
  rintro e w1 ⟨rfl, hb1⟩
  have hP1 := hP.step hb1
  clear hP hb0 hb1
  go_wp2_with (first
    | (refine wpList_load_row rfl 29 (.tmp 2) rfl _ rfl 29 cs (0, 0) _ hP1.b Try.underlying29 rfl h.info ?_)
    | (refine wpList_store_row rfl 29 (.tmp 4) (.tmp 8) rfl _ rfl cs rfl 29 (emptyCells 0) hP1.r (hE.size.trans h.size35) h.info h.all ?_; intro w2 hb2 hg2; have hB2 := below_row hP1.B hg2 hP1.B.size (by omega)))
  exact bodyPost_ret (results_row_tmp rfl _ _ _ _ rfl (run_buf h hb2)) rfl ⟨rfl, hB2⟩

/-- The cells with one entry more. -/
def putCells (cs : Array Value) (at_ : Nat) (n : Int) (x : Ent) : Array Value := ((cs.setIfInBounds (at_ * 2) (.int .i64 x.1)).setIfInBounds (at_ * 2 + 1) (.int .u32 x.2)).setIfInBounds 33 (.int .i64 n)
theorem put_buf {cs : Array Value} {l : List Ent} {room : Int} {R : Nat → Ent} {first : Nat} (h : Buf cs l room) (hf : first < 16) (hc : BufC cs R first l.length room) (hl : ∀ j, j < l.length → R ((first + j) % 16) = l.getD j (0, 0)) (x : Ent) (hn : l.length < 16) :
    Buf (putCells cs ((first + l.length) % 16) ((l.length : Int) + 1) x) (l ++ [x]) room := by
  have hat : (first + l.length) % 16 < 16 := Nat.mod_lt _ (by decide)
  generalize hatq : (first + l.length) % 16 = q at hat ⊢
  have hs := hc.size
  refine ⟨⟨fun i => if i = q then x else R i, first, hf, ⟨?_, ?_, ?_, ?_, ?_, ?_⟩, ?_⟩, by simp; omega, h.r0, h.r1⟩
  · unfold putCells; simp [hs]
  · intro i hi
    unfold putCells
    rw [Array.getElem?_setIfInBounds_ne (by omega), Array.getElem?_setIfInBounds_ne (by omega)]
    by_cases e : i = q
    · subst e
      rw [if_pos rfl, Array.getElem?_setIfInBounds_self_of_lt (by omega)]
    · rw [if_neg e, Array.getElem?_setIfInBounds_ne (by omega)]
      exact hc.addr i hi
  · intro i hi
    unfold putCells
    rw [Array.getElem?_setIfInBounds_ne (by omega)]
    by_cases e : i = q
    · subst e
      rw [if_pos rfl, Array.getElem?_setIfInBounds_self_of_lt (by simp; omega)]
    · rw [if_neg e, Array.getElem?_setIfInBounds_ne (by omega), Array.getElem?_setIfInBounds_ne (by omega)]
      exact hc.val i hi
  · unfold putCells
    rw [Array.getElem?_setIfInBounds_ne (by omega), Array.getElem?_setIfInBounds_ne (by omega), Array.getElem?_setIfInBounds_ne (by omega)]
    exact hc.first
  · unfold putCells
    rw [Array.getElem?_setIfInBounds_self_of_lt (by simp; omega)]
    simp
  · unfold putCells
    rw [Array.getElem?_setIfInBounds_ne (by omega), Array.getElem?_setIfInBounds_ne (by omega), Array.getElem?_setIfInBounds_ne (by omega)]
    exact hc.room
  · intro j hj
    simp only [List.length_append, List.length_cons, List.length_nil] at hj
    by_cases hjl : j < l.length
    · have : (first + j) % 16 ≠ q := by omega
      simp only [if_neg this]
      rw [hl j hjl]
      simp only [List.getD_eq_getElem?_getD, List.getElem?_append_left hjl]
    · obtain rfl : j = l.length := by omega
      simp only [hatq, if_true]
      simp [List.getD]

theorem put_yes (cs : Array Value) (l : List Ent) (room : Int) (h : Buf cs l room) (x : Ent) (hf : l.length < room) (hn : l.length < 16) (w : World) :
    Calls Try.prog 13 #[.agg cs, .agg #[.int .i64 x.1, .int .u32 x.2]] w fun e w' => ∃ cs', Buf cs' (l ++ [x]) room ∧ e = .returned (.tuple #[.agg cs', .bool true]) ∧ Below w.heap.size w w' := by
  have hb0 := Blk.new w 29 cs
  have hP := putW_new w cs x
  have hE := empty_buf 0 (by decide) (by decide)
  have cF := full_any cs l room h
  rw [decide_eq_false (show ¬ room ≤ l.length by omega)] at cF
  obtain ⟨R, first, hfi, hc, hl⟩ := h.ex
  have hN := put_buf h hfi hc hl x hn
  have cA := at_any cs R first l.length room hc hfi l.length (by omega) (by omega)
  rw [Int.toNat_natCast] at cA
  have hq : (first + l.length) % 16 < 16 := Nat.mod_lt _ (by decide)
  generalize (first + l.length) % 16 = q at hN cA hq
  have HN := Lib.hid hN
  clear hl hN
  go_enter Try.func13, Try.ntmps13
  go_wp2_with (refine wpList_load_row rfl 29 (.tmp 2) rfl _ rfl 29 cs (0, 0) _ (show Blk _ _ _ _ from (hb0.alloc _).alloc _) Try.underlying29 rfl h.info ?_)
  refine (cF _).mono ?_
  rintro e w1 ⟨rfl, hb1⟩
  have hP1 := hP.step hb1
  clear hP hb0 hb1
  have n0 := (hP1.b.cell 33).trans hc.n
  have x0 := hP1.x.cell 0
  have x1 := hP1.x.cell 1
  simp only [List.getElem?_toArray, List.getElem?_cons_zero, List.getElem?_cons_succ] at x0 x1
  go_upto_region 3 with fail
  have hH : PutW w w1.drew cs x (emptyCells 0) := ⟨hP1.b, hP1.x, hP1.r, hP1.B.drew⟩
  refine startG (fun w' => PutW w w' cs x (emptyCells 0)) 7 (by kernel_rfl) ?_
  refine takeG (i := 0) (v := .agg cs) rfl (by kernel_rfl) (by kernel_rfl) (by kernel_rfl) (by kernel_rfl) (fun _ _ _ h => h) (yields_row (by rfl) 29 (.tmp 2) rfl w.heap.size rfl cs (fun _ hS => run_buf h hS.b)) hH ?_
  try simp only [Act.put, List.setIfInBounds_toArray, List.set_cons_zero, List.set_cons_succ]
  refine takeG (i := 1) (v := .pointer (some ⟨w.heap.size, 33, none⟩)) rfl (by kernel_rfl) (by kernel_rfl) (by kernel_rfl) (by kernel_rfl) (fun _ _ _ h => h) (Or.inl ⟨by rfl, fun W hW => by go_simp⟩) hH ?_
  try simp only [Act.put, List.setIfInBounds_toArray, List.set_cons_zero, List.set_cons_succ]
  refine takeG (i := 2) (v := .int .i64 l.length) rfl (by kernel_rfl) (by kernel_rfl) (by kernel_rfl) (by kernel_rfl) (fun _ _ _ h => h) (Or.inl ⟨by rfl, fun W hW => by have q := (hW.b.cell 33).trans hc.n; go_simp⟩) hH ?_
  try simp only [Act.put, List.setIfInBounds_toArray, List.set_cons_zero, List.set_cons_succ]
  refine takeG (i := 4) (v := .agg #[.int .i64 x.1, .int .u32 x.2]) rfl (by kernel_rfl) (by kernel_rfl) (by kernel_rfl) (by kernel_rfl) (fun _ _ _ h => h) (Or.inl ⟨by rfl, fun W hW => by have q0 := hW.x.cell 0; have q1 := hW.x.cell 1; simp only [List.getElem?_toArray, List.getElem?_cons_zero, List.getElem?_cons_succ] at q0 q1; go_simp⟩) hH ?_
  try simp only [Act.put, List.setIfInBounds_toArray, List.set_cons_zero, List.set_cons_succ]
  refine takeG (i := 5) (v := .pointer (some ⟨w.heap.size, 0, none⟩)) rfl (by kernel_rfl) (by kernel_rfl) (by kernel_rfl) (by kernel_rfl) (fun _ _ _ h => h) (Or.inl ⟨by rfl, fun W hW => by go_simp⟩) hH ?_
  try simp only [Act.put, List.setIfInBounds_toArray, List.set_cons_zero, List.set_cons_succ]
  refine onlyG (i := 3) (by kernel_rfl) rfl (fun K hK => ?_)
  go_simp
  refine (cA _).mono ?_
  rintro e w2 ⟨rfl, hb2⟩
  go_wp2_with fail
  refine hK.out _ _ (hH.step hb2) (fun hH2 => ?_)
  clear hK K hH hP1 n0 x0 x1 hb2
  have h16 : ¬ (16 : Int) ≤ (q : Int) := by omega
  try simp only [Act.put, List.setIfInBounds_toArray, List.set_cons_zero, List.set_cons_succ]
  refine takeG (i := 6) (v := .pointer (some ⟨w.heap.size, q * 2, none⟩)) rfl (by kernel_rfl) (by kernel_rfl) (by kernel_rfl) (by kernel_rfl) (fun _ _ _ h => h) (Or.inl ⟨by rfl, fun W hW => by go_simp⟩) hH2 ?_
  try simp only [Act.put, List.setIfInBounds_toArray, List.set_cons_zero, List.set_cons_succ]
  refine lastG (by kernel_rfl) rfl (by kernel_rfl) (fun K hK => ?_)
  have c0 := (hH2.b.cell (q * 2)).trans (hc.addr q hq)
  have c1 := (hH2.b.cell (q * 2 + 1)).trans (hc.val q hq)
  have f0 := hH2.b.frozen (q * 2)
  have f1 := hH2.b.frozen (q * 2 + 1)
  go_simp
  refine hK.out _ _ ?_
  clear hK K c0 c1 f0 f1
  have hb3 := (hH2.b.set_ (q * 2) (.int .i64 x.1)).set_ (q * 2 + 1) (.int .u32 x.2)
  have hr3 := (hH2.r.far (p := ⟨w.heap.size, q * 2, none⟩) (fun e => by dsimp only at e; omega) (.int .i64 x.1)).far (p := ⟨w.heap.size, q * 2 + 1, none⟩) (fun e => by dsimp only at e; omega) (.int .u32 x.2)
  have hB3 := (hH2.B.setCell (p := ⟨w.heap.size, q * 2, none⟩) (Nat.le_refl _) (.int .i64 x.1)).setCell (p := ⟨w.heap.size, q * 2 + 1, none⟩) (Nat.le_refl _) (.int .u32 x.2)
  generalize ((w2.setCell ⟨w.heap.size, q * 2, none⟩ (.int .i64 x.1)).setCell ⟨w.heap.size, q * 2 + 1, none⟩ (.int .u32 x.2)) = w3 at hb3 hr3 hB3 ⊢
  have hs3 : 33 < ((cs.setIfInBounds (q * 2) (.int .i64 x.1)).setIfInBounds (q * 2 + 1) (.int .u32 x.2)).size := by simp [hc.size]
  have n3 : w3.cell? ⟨w.heap.size, 33, none⟩ = some (.int .i64 l.length) := by
    rw [hb3.cell, Array.getElem?_setIfInBounds_ne (by omega), Array.getElem?_setIfInBounds_ne (by omega)]
    exact hc.n
  have f3 := hb3.frozen 33
  have hb4 := hb3.set_ 33 (.int .i64 ((l.length : Int) + 1))
  have hr4 := hr3.far (p := ⟨w.heap.size, 33, none⟩) (fun e => by dsimp only at e; omega) (.int .i64 ((l.length : Int) + 1))
  have hB4 := hB3.setCell (p := ⟨w.heap.size, 33, none⟩) (Nat.le_refl _) (.int .i64 ((l.length : Int) + 1))
  have hN2 := HN.out
  change Blk _ _ _ (putCells cs q ((l.length : Int) + 1) x) at hb4
  generalize putCells cs q ((l.length : Int) + 1) x = cs2 at hb4 hN2
  go_wp2_with (first
    | (refine wpList_load_row rfl 29 (.tmp 2) rfl _ rfl 29 cs2 (0, 0) _ hb4 Try.underlying29 rfl hN2.info ?_)
    | (refine wpList_store_row rfl 29 (.tmp 4) (.tmp 20) rfl _ rfl cs2 rfl 29 (emptyCells 0) hr4 (hE.size.trans hN2.size35) hN2.info hN2.all ?_; intro w5 hb5 hg5; have hB5 := below_row hB4 hg5 hB4.size (by omega)))
  exact bodyPost_ret (results_row_tmp rfl _ _ _ _ rfl (run_buf hN2 hb5)) rfl ⟨cs2, hN2, rfl, hB5⟩
end Go.Proofs.Ytaanmamgmjhegaa
