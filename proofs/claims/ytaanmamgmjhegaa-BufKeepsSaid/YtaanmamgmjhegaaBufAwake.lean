/- The document's example of layer 5. -/
import Derived.Test.YtaanmamgmjhegaaBufFind
namespace Go.Proofs.Ytaanmamgmjhegaa
open Go.ChangeShapes Go.WideShapes Go.ChangeAt Go.RowKit Go.Deep
set_option linter.unusedVariables false
set_option linter.unusedSimpArgs false

theorem Buf.sizeE {cs cs' : Array Value} {l l' : List Ent} {room room' : Int} (h : Buf cs l room) (h' : Buf cs' l' room') : cs.size = cs'.size := h.size.trans h'.size.symm

set_option maxHeartbeats 1000000 in
theorem awake05_any (w : World) : Calls Try.prog 11 #[] w fun e w' => e = .returned (.bool true) ∧ Below w.heap.size w w' := by
  have hE := empty_buf 0 (by decide) (by decide)
  have h0 := empty_buf 2 (by decide) (by decide)
  have cN := new_any 2
  rw [if_pos (by decide), if_pos (by decide)] at cN
  generalize hcs0 : emptyCells 2 = cs0 at h0 cN
  clear hcs0
  go_enter Try.func11, Try.ntmps11
  go_wp2_with fail
  refine (cN _).mono ?_
  rintro e w1 ⟨rfl, hB1⟩
  go_wp2_with (first
    | (refine wpList_store_row rfl 29 (.tmp 1) (.tmp 14) rfl _ rfl cs0 rfl 29 (emptyCells 0) (Blk.new _ _ _) (hE.sizeE h0) h0.info h0.all ?_; intro w2 hb2 hg2; have hB2 := below_row (hB1.alloc hB1.size _) hg2 (by have := hB1.size; simp; omega) hB1.size)
    | (refine wpList_load_row rfl 29 (.tmp 1) rfl _ rfl 29 cs0 (0, 0) _ hb2 Try.underlying29 rfl h0.info ?_))
  clear hB1 hg2
  have hp1 := put_yes cs0 [] 2 h0 (3, 7) (by decide) (by decide)
  refine (hp1 _).mono ?_
  rintro e w3 ⟨cs1, h1, rfl, hb3⟩
  have hB3 := step_below hB2 hb3
  have k1 := hb2.below hb3 hb2.lt
  generalize w1.heap.size = g1 at k1 ⊢
  clear hp1 hb2 hB2 hb3
  go_wp2_with (first
    | (refine wpList_store_row rfl 29 (.tmp 3) (.tmp 20) rfl _ rfl cs1 rfl 29 (emptyCells 0) (Blk.new _ _ _) (hE.sizeE h1) h1.info h1.all ?_; intro w4 hb4 hg4; have hB4 := below_row (hB3.alloc hB3.size _) hg4 (by have := hB3.size; simp; omega) hB3.size; have k1' := (k1.alloc _).grown hg4 (fun e => by have := k1.lt; injection e with e; omega); clear k1 hg4 hB3)
    | (refine wpList_load_row rfl 29 (.tmp 3) rfl _ rfl 29 cs1 (0, 0) _ hb4 Try.underlying29 rfl h1.info ?_))
  have hp2 := put_yes cs1 _ 2 h1 (3, 8) (by decide) (by decide)
  refine (hp2 _).mono ?_
  rintro e w5 ⟨cs2, h2, rfl, hb5⟩
  have hB5 := step_below hB4 hb5
  have k2 := k1'.below hb5 k1'.lt
  clear hp2 hb4 hB4 hb5 k1' h1
  go_wp2_with (first
    | (refine wpList_store_row rfl 29 (.tmp 5) (.tmp 26) rfl _ rfl cs2 rfl 29 (emptyCells 0) (Blk.new _ _ _) (hE.sizeE h2) h2.info h2.all ?_; intro w6 hb6 hg6; have hB6 := below_row (hB5.alloc hB5.size _) hg6 (by have := hB5.size; simp; omega) hB5.size; have k3 := (k2.alloc _).grown hg6 (fun e => by have := k2.lt; injection e with e; omega); clear k2 hg6 hB5)
    | (refine wpList_load_row rfl 29 (.tmp 5) rfl _ rfl 29 cs2 (0, 0) _ hb6 Try.underlying29 rfl h2.info ?_))
  have hF : FindP ([] ++ [((3 : Int), (7 : Int))] ++ [(3, 8)]) 3 8 true := .hit 1 (by decide) rfl (fun j a b => by simp at b; omega)
  refine (find_any cs2 _ 2 h2 3 8 true hF _).mono ?_
  rintro e w7 ⟨rfl, hb7⟩
  have hB7 := step_below hB6 hb7
  have k4 := k3.below hb7 k3.lt
  have m4 := hb6.below hb7 hb6.lt
  clear hb6 hB6 k3 hb7 hF
  generalize w5.heap.size = g5 at m4 ⊢
  go_wp2_with (refine wpList_load_row rfl 29 (.tmp 5) rfl _ rfl 29 cs2 (0, 0) _ m4 Try.underlying29 rfl h2.info ?_)
  refine (pop_some cs2 (3, 7) [(3, 8)] 2 h2 _).mono ?_
  rintro e w8 ⟨cs3, h3, rfl, hb8⟩
  have hB8 := step_below hB7 hb8
  have k5 := k4.below hb8 k4.lt
  have m5 := m4.below hb8 m4.lt
  clear hB7 k4 m4 hb8
  unfold entCells
  have hB9 := hB8.alloc hB8.size (Obj.cells #[.int .i64 3, .int .u32 7] 26)
  have hB10 := hB9.alloc hB9.size (Obj.cells (emptyCells 0) 29)
  have k6 := (k5.alloc (Obj.cells #[.int .i64 3, .int .u32 7] 26)).alloc (Obj.cells (emptyCells 0) 29)
  have m6 := (m5.alloc (Obj.cells #[.int .i64 3, .int .u32 7] 26)).alloc (Obj.cells (emptyCells 0) 29)
  have x6 := (Blk.new w8 26 #[.int .i64 3, .int .u32 7]).alloc (Obj.cells (emptyCells 0) 29)
  have kl := k5.lt
  have ml := m5.lt
  go_upto_region 6 with (refine wpList_store_row rfl 29 (.tmp 10) (.tmp 37) rfl _ rfl cs3 rfl 29 (emptyCells 0) (Blk.new2 _ _ _ _) (hE.sizeE h3) h3.info h3.all ?_; intro w9 hb9 hg9; have hB11 := below_row hB10 hg9 hB10.size (by have := hB8.size; omega); have k7 := k6.grown hg9 (fun e => by injection e with e; omega); have m7 := m6.grown hg9 (fun e => by injection e with e; omega); have x7 := x6.grown hg9 (fun e => by injection e with e; omega); clear hB10 k6 m6 x6 hg9 hb9 hB9 hB8 k5 m5)
  have x1 := x7.cell 1
  simp only [List.getElem?_toArray, List.getElem?_cons_zero, List.getElem?_cons_succ] at x1
  have cF := full_any cs2 _ 2 h2
  rw [decide_eq_true (by decide)] at cF
  have cL := len_any cs0 _ 2 h0
  go_wp2_with (first
    | (go_at_call 16; refine (cF _).mono ?_; rintro e w10 ⟨rfl, hb10⟩; have hB12 := step_below hB11 hb10; have k8 := k7.below hb10 k7.lt)
    | (go_at_call 15; refine (cL _).mono ?_; rintro e w11 ⟨rfl, hb11⟩; have hB13 := step_below hB12 hb11)
    | (refine wpList_load_rowG (by rfl) 29 (.tmp 5) rfl _ rfl 29 cs2 (0, 0) _ m7 Try.underlying29 rfl h2.info ?_)
    | (refine wpList_load_rowG (by rfl) 29 (.tmp 1) rfl _ rfl 29 cs0 (0, 0) _ k8 Try.underlying29 rfl h0.info ?_))
  go_ret
  exact ⟨rfl, hB13⟩
end Go.Proofs.Ytaanmamgmjhegaa
