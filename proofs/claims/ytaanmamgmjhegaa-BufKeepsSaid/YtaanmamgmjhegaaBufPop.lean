/- Pop. -/
import Derived.Test.YtaanmamgmjhegaaBufPut
namespace Go.Proofs.Ytaanmamgmjhegaa
open Go.ChangeShapes Go.WideShapes Go.ChangeAt Go.RowKit Go.Deep
set_option linter.unusedVariables false
set_option linter.unusedSimpArgs false

def entCells (x : Ent) : Array Value := #[.int .i64 x.1, .int .u32 x.2]
/-- What Pop's frame holds: the buffer, the entry, the result. -/
structure PopW (w W : World) (cs : Array Value) (x : Array Value) (old : Array Value) : Prop where
  b : Blk W w.heap.size 29 cs
  x : Blk W (w.heap.size + 1) 26 x
  r : Blk W (w.heap.size + 1 + 1) 29 old
  B : Below w.heap.size w W
theorem popW_new (w : World) (cs : Array Value) : PopW w (((w.alloc (Obj.cells cs 29)).alloc (Obj.cells #[.int .i64 0, .int .u32 0] 26)).alloc (Obj.cells (emptyCells 0) 29)) cs (entCells (0, 0)) (emptyCells 0) := by
  obtain ⟨h1, h2, h3, h4⟩ := putW_new w cs (0, 0)
  exact ⟨h1, h2, h3, h4⟩
theorem PopW.step {w W W1 : World} {cs old x : Array Value} (h : PopW w W cs x old) (hb : Below W.heap.size W W1) : PopW w W1 cs x old :=
  ⟨h.b.below hb h.b.lt, h.x.below hb h.x.lt, h.r.below hb h.r.lt, step_below h.B hb⟩
theorem PopW.drew {w W : World} {cs old x : Array Value} (h : PopW w W cs x old) : PopW w W.drew cs x old := ⟨h.b, h.x, h.r, h.B.drew⟩
/-- Behind a store into the entry's block. -/
theorem PopW.setX {w W : World} {cs old x : Array Value} (h : PopW w W cs x old) (i : Nat) (v : Value) : PopW w (W.setCell ⟨w.heap.size + 1, i, none⟩ v) cs (x.setIfInBounds i v) old :=
  ⟨h.b.far (fun e => by dsimp only at e; omega) v, h.x.set_ i v, h.r.far (fun e => by dsimp only at e; omega) v, h.B.setCell (by simp) v⟩
theorem PopW.setB {w W : World} {cs old x : Array Value} (h : PopW w W cs x old) (i : Nat) (v : Value) : PopW w (W.setCell ⟨w.heap.size, i, none⟩ v) (cs.setIfInBounds i v) x old :=
  ⟨h.b.set_ i v, h.x.far (fun e => by dsimp only at e; omega) v, h.r.far (fun e => by dsimp only at e; omega) v, h.B.setCell (Nat.le_refl _) v⟩
theorem PopW.row {w W W1 : World} {cs old x new : Array Value} (h : PopW w W cs x old) (hr : Blk W1 (w.heap.size + 1 + 1) 29 new) (hg : W.grownBy W1 (some (w.heap.size + 1 + 1))) : PopW w W1 cs x new :=
  ⟨h.b.grown hg (by simp; omega), h.x.grown hg (by simp), hr, below_row h.B hg h.B.size (by omega)⟩
theorem PopW.rowX {w W W1 : World} {cs old x new : Array Value} (h : PopW w W cs x old) (hr : Blk W1 (w.heap.size + 1) 26 new) (hg : W.grownBy W1 (some (w.heap.size + 1))) : PopW w W1 cs new old :=
  ⟨h.b.grown hg (by simp), hr, h.r.grown hg (by simp), below_row h.B hg h.B.size (by omega)⟩
theorem ent_info : (Try.prog.info? 26).map (·.size) = some 2 := by kernel_rfl
theorem ent_all (x : Ent) : (entCells x).all (·.oneCell') = true := by
  rw [Array.all_eq_true_iff_forall_mem]
  intro v hv
  have hv' : v = .int .i64 x.1 ∨ v = .int .u32 x.2 := by simpa [entCells] using hv
  rcases hv' with rfl | rfl <;> rfl
theorem run_ent {w : World} {g : Nat} {x : Ent} (hb : Blk w g 26 (entCells x)) : (loadVar 26 ⟨g, 0, none⟩).run Try.prog w = .ok (.agg (entCells x)) w :=
  run_row w g _ _ (entCells x) _ hb Try.underlying26 rfl (by show _ = some 2; kernel_rfl)

theorem pop_none (cs : Array Value) (room : Int) (h : Buf cs [] room) (w : World) :
    Calls Try.prog 14 #[.agg cs] w fun e w' => e = .returned (.tuple #[.agg (entCells (0, 0)), .agg cs, .bool false]) ∧ Below w.heap.size w w' := by
  have hP := popW_new w cs
  have hE := empty_buf 0 (by decide) (by decide)
  obtain ⟨R, first, hfi, hc, hl⟩ := h.ex
  have hn0 : cs[33]? = some (.int .i64 0) := hc.n
  clear hl
  go_enter Try.func14, Try.ntmps14
  go_upto_region 2 with fail
  clear hn0
  generalize hW : ((w.alloc (Obj.cells cs 29)).alloc (Obj.cells #[.int .i64 0, .int .u32 0] 26)).alloc (Obj.cells (emptyCells 0) 29) = W at hP
  unfold emptyCells at hW
  rw [hW]
  clear hW
  have hH := hP.drew
  refine startG (fun W' => Blk W' w.heap.size 29 cs) 4 (by kernel_rfl) ?_
  generalize W.drew = W1 at hH
  refine takeG (i := 0) (v := .agg (entCells (0, 0))) rfl (by kernel_rfl) (by kernel_rfl) (by kernel_rfl) (by kernel_rfl) (fun _ _ _ h => h) (Or.inl ⟨by rfl, fun W hW => by unfold entCells; go_simp⟩) hH.b ?_
  try simp only [Act.put, List.setIfInBounds_toArray, List.set_cons_zero, List.set_cons_succ]
  refine takeG (i := 1) (v := .agg cs) rfl (by kernel_rfl) (by kernel_rfl) (by kernel_rfl) (by kernel_rfl) (fun _ _ _ h => h) (yields_row (by rfl) 29 (.tmp 1) rfl w.heap.size rfl cs (fun _ hS => run_buf h hS)) hH.b ?_
  try simp only [Act.put, List.setIfInBounds_toArray, List.set_cons_zero, List.set_cons_succ]
  refine onlyG (i := 2) (by kernel_rfl) rfl (fun K hK => ?_)
  refine step_store_row rfl 26 (.tmp 2) (.tmp 9) rfl _ rfl (entCells (0, 0)) rfl 26 (entCells (0, 0)) hH.x rfl ent_info (ent_all _) ?_
  intro W2 hx2 hg2
  have hH2 := hH.rowX hx2 hg2
  refine hK.out _ _ hH2.b (fun hS2 => ?_)
  clear hK K hx2 hg2
  try simp only [Act.put, List.setIfInBounds_toArray, List.set_cons_zero, List.set_cons_succ]
  refine onlyG (i := 3) (by kernel_rfl) rfl (fun K hK => ?_)
  refine step_store_row rfl 29 (.tmp 3) (.tmp 10) rfl _ rfl cs rfl 29 (emptyCells 0) hH2.r (hE.size.trans h.size35) h.info h.all ?_
  intro W3 hr3 hg3
  have hH3 := hH2.row hr3 hg3
  refine hK.out _ _ hH3.b (fun hS3 => ?_)
  clear hK K hr3 hg3
  try simp only [Act.put, List.setIfInBounds_toArray, List.set_cons_zero, List.set_cons_succ]
  refine lastG (by kernel_rfl) rfl (by kernel_rfl) (fun K hK => ?_)
  go_simp
  refine hK.out _ _ ?_
  clear hK K
  go_wp2_with fail
  exact bodyPost_ret (results_row_row_tmp rfl _ _ _ _ _ _ rfl (run_ent hH3.x) rfl (run_buf h hH3.r)) rfl ⟨rfl, hH3.B⟩

def popCells (cs : Array Value) (first : Nat) (n : Int) : Array Value :=
  (((cs.setIfInBounds (first * 2) (.int .i64 0)).setIfInBounds (first * 2 + 1) (.int .u32 0)).setIfInBounds 32 (.int .i64 (((first : Int) + 1) % 16))).setIfInBounds 33 (.int .i64 n)
theorem pop_bufC {cs : Array Value} {R : Nat → Ent} {first n : Nat} {room : Int} (hc : BufC cs R first n room) (hf : first < 16) :
    BufC ((cs.setIfInBounds (first * 2) (.int .i64 0)).setIfInBounds (first * 2 + 1) (.int .u32 0)) (fun i => if i = first then (0, 0) else R i) first n room := by
  have hs := hc.size
  refine ⟨by simp [hs], fun i hi => ?_, fun i hi => ?_, ?_, ?_, ?_⟩
  · by_cases e : i = first
    · subst e
      rw [if_pos rfl, Array.getElem?_setIfInBounds_ne (by omega), Array.getElem?_setIfInBounds_self_of_lt (by omega)]
    · rw [if_neg e, Array.getElem?_setIfInBounds_ne (by omega), Array.getElem?_setIfInBounds_ne (by omega)]
      exact hc.addr i hi
  · by_cases e : i = first
    · subst e
      rw [if_pos rfl, Array.getElem?_setIfInBounds_self_of_lt (by simp; omega)]
    · rw [if_neg e, Array.getElem?_setIfInBounds_ne (by omega), Array.getElem?_setIfInBounds_ne (by omega)]
      exact hc.val i hi
  · rw [Array.getElem?_setIfInBounds_ne (by omega), Array.getElem?_setIfInBounds_ne (by omega)]; exact hc.first
  · rw [Array.getElem?_setIfInBounds_ne (by omega), Array.getElem?_setIfInBounds_ne (by omega)]; exact hc.n
  · rw [Array.getElem?_setIfInBounds_ne (by omega), Array.getElem?_setIfInBounds_ne (by omega)]; exact hc.room

theorem pop_buf {cs : Array Value} {x : Ent} {l : List Ent} {room : Int} {R : Nat → Ent} {first : Nat} (h : Buf cs (x :: l) room) (hf : first < 16) (hc : BufC cs R first (l.length + 1) room)
    (hl : ∀ j, j < l.length + 1 → R ((first + j) % 16) = (x :: l).getD j (0, 0)) : Buf (popCells cs first l.length) l room := by
  have hle := h.le
  simp only [List.length_cons] at hle
  have hd := pop_bufC hc hf
  unfold popCells
  generalize (cs.setIfInBounds (first * 2) (Value.int .i64 0)).setIfInBounds (first * 2 + 1) (Value.int .u32 0) = ds at hd ⊢
  have hs := hd.size
  refine ⟨⟨fun i => if i = first then (0, 0) else R i, (first + 1) % 16, by omega, ⟨by simp [hs], fun i hi => ?_, fun i hi => ?_, ?_, ?_, ?_⟩, fun j hj => ?_⟩, by omega, h.r0, h.r1⟩
  · rw [Array.getElem?_setIfInBounds_ne (by omega), Array.getElem?_setIfInBounds_ne (by omega)]; exact hd.addr i hi
  · rw [Array.getElem?_setIfInBounds_ne (by omega), Array.getElem?_setIfInBounds_ne (by omega)]; exact hd.val i hi
  · rw [Array.getElem?_setIfInBounds_ne (by omega), Array.getElem?_setIfInBounds_self_of_lt (by omega), show ((first : Int) + 1) % 16 = (((first + 1) % 16 : Nat) : Int) by omega]
  · rw [Array.getElem?_setIfInBounds_self_of_lt (by simp; omega)]
  · rw [Array.getElem?_setIfInBounds_ne (by omega), Array.getElem?_setIfInBounds_ne (by omega)]; exact hd.room
  · have e : ((first + 1) % 16 + j) % 16 = (first + (j + 1)) % 16 := by omega
    have hne : (first + (j + 1)) % 16 ≠ first := by omega
    simp only [e, if_neg hne]
    rw [hl (j + 1) (by omega)]
    rfl

theorem pop_some (cs : Array Value) (x : Ent) (l : List Ent) (room : Int) (h : Buf cs (x :: l) room) (w : World) :
    Calls Try.prog 14 #[.agg cs] w fun e w' => ∃ cs', Buf cs' l room ∧ e = .returned (.tuple #[.agg (entCells x), .agg cs', .bool true]) ∧ Below w.heap.size w w' := by
  have hP := popW_new w cs
  have hE := empty_buf 0 (by decide) (by decide)
  obtain ⟨R, first, hfi, hc, hl⟩ := h.ex
  have hN := pop_buf h hfi hc hl
  have hle := h.le
  have hd := pop_bufC hc hfi
  have hx : R first = x := by
    have := hl 0 (by simp)
    rw [Nat.add_zero, Nat.mod_eq_of_lt hfi] at this
    exact this
  have HN := Lib.hid hN
  have HX := Lib.hid hx
  simp only [List.length_cons] at hc hd hle
  have hn0 : cs[33]? = some (.int .i64 (((l.length + 1 : Nat) : Int))) := hc.n
  have hnz : ((((l.length + 1 : Nat) : Int)) == 0) = false := by rw [beq_eq_false_iff_ne]; omega
  clear hl hN hx
  go_enter Try.func14, Try.ntmps14
  go_upto_region 3 with fail
  clear hn0 hnz
  generalize hW : ((w.alloc (Obj.cells cs 29)).alloc (Obj.cells #[.int .i64 0, .int .u32 0] 26)).alloc (Obj.cells (emptyCells 0) 29) = W at hP
  unfold emptyCells at hW
  rw [hW]
  clear hW
  have q32 := (hP.b.cell 32).trans hc.first
  have e0 := (hP.b.cell (first * 2)).trans (hc.addr first hfi)
  have e1 := (hP.b.cell (first * 2 + 1)).trans (hc.val first hfi)
  have f0 := hP.b.frozen (first * 2)
  have f1 := hP.b.frozen (first * 2 + 1)
  have h16 : (first : Int) < 16 := by omega
  have hgl := hP.b.lt
  rw [HX.out] at e0 e1
  go_upto_region 5 with fail
  clear q32 e0 e1 f0 f1 h16
  have hP2 := (hP.setB (first * 2) (.int .i64 0)).setB (first * 2 + 1) (.int .u32 0)
  have hs2 : ((W.setCell ⟨w.heap.size, first * 2, none⟩ (.int .i64 0)).setCell ⟨w.heap.size, first * 2 + 1, none⟩ (.int .u32 0)).heap.size = W.heap.size := by simp [World.setCell]
  have hx2 := Blk.new ((W.setCell ⟨w.heap.size, first * 2, none⟩ (.int .i64 0)).setCell ⟨w.heap.size, first * 2 + 1, none⟩ (.int .u32 0)) 26 (entCells x)
  rw [hs2] at hx2
  have hP3 := hP2.step ((Below.refl _ _).alloc (Nat.le_refl _) (Obj.cells (entCells x) 26))
  change PopW w (((W.setCell ⟨w.heap.size, first * 2, none⟩ (.int .i64 0)).setCell ⟨w.heap.size, first * 2 + 1, none⟩ (.int .u32 0)).alloc (Obj.cells #[.int .i64 x.1, .int .u32 x.2] 26)) _ _ _ at hP3
  change Blk (((W.setCell ⟨w.heap.size, first * 2, none⟩ (.int .i64 0)).setCell ⟨w.heap.size, first * 2 + 1, none⟩ (.int .u32 0)).alloc (Obj.cells #[.int .i64 x.1, .int .u32 x.2] 26)) _ _ _ at hx2
  have hg3 : w.heap.size + 1 + 1 < W.heap.size := hP.r.lt
  clear hs2 hP2 hP hgl
  generalize (((W.setCell ⟨w.heap.size, first * 2, none⟩ (.int .i64 0)).setCell ⟨w.heap.size, first * 2 + 1, none⟩ (.int .u32 0)).alloc (Obj.cells #[.int .i64 x.1, .int .u32 x.2] 26)) = W3 at hP3 hx2 ⊢
  unfold popCells at HN
  generalize (cs.setIfInBounds (first * 2) (Value.int .i64 0)).setIfInBounds (first * 2 + 1) (Value.int .u32 0) = ds at hd HN hP3
  generalize W.heap.size = gx at hx2 hg3 ⊢
  have hds := buf_size _ hd.size
  have cA := at_any ds _ first _ room hd hfi 1 (by decide) (by decide)
  go_wp2_with (refine wpList_load_row rfl 29 (.tmp 1) rfl _ rfl 29 ds (0, 0) _ hP3.b Try.underlying29 rfl hds ?_)
  refine (cA _).mono ?_
  rintro e W4 ⟨rfl, hb4⟩
  have hP4 := hP3.step hb4
  have hx4 := hx2.below hb4 hx2.lt
  have q32 := (hP4.b.cell 32).trans hd.first
  have q33 := (hP4.b.cell 33).trans hd.n
  have f32 := hP4.b.frozen 32
  have f33 := hP4.b.frozen 33
  clear hP3 hx2 hb4 cA
  go_upto_region 7 with fail
  clear q32 q33 f32 f33
  have hP5 := (hP4.setB 32 (.int .i64 (((first : Int) + 1) % 16))).setB 33 (.int .i64 l.length)
  have hx5 := (hx4.far (p := ⟨w.heap.size, 32, none⟩) (fun e => by dsimp only at e; omega) (.int .i64 (((first : Int) + 1) % 16))).far (p := ⟨w.heap.size, 33, none⟩) (fun e => by dsimp only at e; omega) (.int .i64 l.length)
  clear hP4 hx4
  generalize (W4.setCell ⟨w.heap.size, 32, none⟩ (.int .i64 (((first : Int) + 1) % 16))).setCell ⟨w.heap.size, 33, none⟩ (.int .i64 l.length) = W5 at hP5 hx5 ⊢
  have hN := HN.out
  generalize (ds.setIfInBounds 32 (Value.int .i64 (((first : Int) + 1) % 16))).setIfInBounds 33 (Value.int .i64 l.length) = es at hP5 hN
  have hH := hP5.drew
  refine startG (fun W' => Blk W' w.heap.size 29 es ∧ Blk W' gx 26 (entCells x)) 4 (by kernel_rfl) ?_
  have hxd := hx5.drew
  generalize W5.drew = W6 at hH hxd
  refine takeG (i := 0) (v := .agg (entCells x)) rfl (by kernel_rfl) (by kernel_rfl) (by kernel_rfl) (by kernel_rfl) (fun _ _ _ h => h) (yields_row (by rfl) 26 (.tmp 5) rfl gx rfl (entCells x) (fun _ hS => run_ent hS.2)) ⟨hH.b, hxd⟩ ?_
  try simp only [Act.put, List.setIfInBounds_toArray, List.set_cons_zero, List.set_cons_succ]
  refine takeG (i := 1) (v := .agg es) rfl (by kernel_rfl) (by kernel_rfl) (by kernel_rfl) (by kernel_rfl) (fun _ _ _ h => h) (yields_row (by rfl) 29 (.tmp 1) rfl w.heap.size rfl es (fun _ hS => run_buf hN hS.1)) ⟨hH.b, hxd⟩ ?_
  try simp only [Act.put, List.setIfInBounds_toArray, List.set_cons_zero, List.set_cons_succ]
  refine onlyG (i := 2) (by kernel_rfl) rfl (fun K hK => ?_)
  refine step_store_row rfl 26 (.tmp 2) (.tmp 28) rfl _ rfl (entCells x) rfl 26 (entCells (0, 0)) hH.x rfl ent_info (ent_all _) ?_
  intro W7 hx7 hg7
  have hH7 := hH.rowX hx7 hg7
  have hxd7 := hxd.grown hg7 (fun e => by injection e with e; omega)
  refine hK.out _ _ ⟨hH7.b, hxd7⟩ (fun hS2 => ?_)
  clear hK K hx7 hg7
  try simp only [Act.put, List.setIfInBounds_toArray, List.set_cons_zero, List.set_cons_succ]
  refine onlyG (i := 3) (by kernel_rfl) rfl (fun K hK => ?_)
  refine step_store_row rfl 29 (.tmp 3) (.tmp 29) rfl _ rfl es rfl 29 (emptyCells 0) hH7.r (hE.size.trans hN.size35) hN.info hN.all ?_
  intro W8 hr8 hg8
  have hH8 := hH7.row hr8 hg8
  have hxd8 := hxd7.grown hg8 (fun e => by injection e with e; omega)
  refine hK.out _ _ ⟨hH8.b, hxd8⟩ (fun hS3 => ?_)
  clear hK K hr8 hg8
  try simp only [Act.put, List.setIfInBounds_toArray, List.set_cons_zero, List.set_cons_succ]
  refine lastG (by kernel_rfl) rfl (by kernel_rfl) (fun K hK => ?_)
  go_simp
  refine hK.out _ _ ?_
  clear hK K
  go_wp2_with fail
  exact bodyPost_ret (results_row_row_tmp rfl _ _ _ _ _ _ rfl (run_ent hH8.x) rfl (run_buf hN hH8.r)) rfl ⟨es, hN, rfl, hH8.B⟩
end Go.Proofs.Ytaanmamgmjhegaa
