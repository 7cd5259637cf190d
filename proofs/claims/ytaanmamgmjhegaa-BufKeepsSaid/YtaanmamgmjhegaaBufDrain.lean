/- Drain, and the document's Drain. -/
import Derived.Test.YtaanmamgmjhegaaBufSame
import Derived.Deep.LoopGhost
import Derived.Laws.CopyOwn
namespace Go.Proofs.Ytaanmamgmjhegaa
open Go.ChangeShapes Go.WideShapes Go.ChangeAt Go.RowKit Go.Deep
set_option linter.unusedVariables false
set_option linter.unusedSimpArgs false

def putM (f : Nat → Int) (x : Ent) : Nat → Int := fun i => if (i : Int) = x.1 then x.2 else f i
def drained (l : List Ent) (f : Nat → Int) : Nat → Int := l.foldl putM f
theorem drained_snoc (l : List Ent) (x : Ent) (f : Nat → Int) : drained (l ++ [x]) f = putM (drained l f) x := by unfold drained; rw [List.foldl_append]; rfl

theorem word_info : (Try.prog.info? 24).map (fun i => (i.zero, i.size, i.bytes)) = some (some (.int .u32 0), 1, 4) := by kernel_rfl
theorem run_make_words (n : Nat) (hn : n ≤ 1000000) : ∀ w : World, (Instr.makeSlice 49 (.int .i64 (n : Int)) (.int .i64 (n : Int))).run Try.prog w =
    .ok (.slice (some ⟨w.heap.size, 0, none⟩) n n) (w.alloc (.cells (madeCells #[.int .u32 0] n) 24)) := fun w => by
  obtain ⟨i, hi, hz, hs, hb⟩ := info_parts word_info
  have hb2 : (i.bytes : Int) * (n : Int) ≤ 281474976710656 := by rw [hb]; omega
  have hr := run_make (P := Try.prog) w 49 24 i _ Try.underlying49 hi hz .i64 .i64 n n (by omega) (by omega) hb2 (by omega)
  simp only [Int.toNat_natCast] at hr
  rw [hs, Nat.mul_one] at hr
  exact hr

theorem splice_all (cur cs : List Value) (h : cur.length = cs.length) : splice cur 0 cs = cs := by
  simp [splice, h]

set_option maxHeartbeats 4000000 in
theorem drain_any (cs : Array Value) (l : List Ent) (room : Int) (h : Buf cs l room) (A : Option Addr) (m cap : Nat) (Z : Nat → Int) (hm : m ≤ 100000) (w : World) (hs : Sl w A m (fun i => .int .u32 (Z i))) :
    Calls Try.prog 21 #[.agg cs, .slice A m cap] w fun e w' => ∃ (g : Nat) (cs' D : Array Value), w.heap.size ≤ g ∧ e = .returned (.tuple #[.slice (some ⟨g, 0, none⟩) m m, .agg cs']) ∧ Buf cs' [] room ∧ Blk w' g 24 D ∧ D.size = m ∧ (∀ i, i < m → D[i]? = some (.int .u32 (drained l Z i))) ∧ Below w.heap.size w w' := by
  have hE := empty_buf 0 (by decide) (by decide)
  have hmk := run_make_words m (by omega)
  have HS := Lib.hid hs
  have hPn := putW_new w cs (0, 0)
  clear hs
  have hb0 := (Blk.new w 29 cs).alloc (.cells (emptyCells 0) 29)
  have hr0 := Blk.new2 w (.cells cs 29) 29 (emptyCells 0)
  have hB0 := ((Below.refl w.heap.size w).alloc (Nat.le_refl _) (.cells cs 29)).alloc (by simp) (.cells (emptyCells 0) 29)
  have hz0 : ((w.alloc (.cells cs 29)).alloc (.cells (emptyCells 0) 29)).heap.size = w.heap.size + 1 + 1 := by simp
  clear hPn
  go_enter Try.func21, Try.ntmps21
  go_upto_region 2 with fail
  clear hmk
  generalize hW2 : (w.alloc (.cells cs 29)).alloc (.cells (emptyCells 0) 29) = W2 at hb0 hr0 hB0 hz0
  unfold emptyCells at hW2
  rw [hW2]
  clear hW2
  have hb1 := hb0.alloc (.cells (madeCells #[.int .u32 0] m) 24)
  have hr1 := hr0.alloc (.cells (madeCells #[.int .u32 0] m) 24)
  have ho1 := Blk.new W2 24 (madeCells #[.int .u32 0] m)
  have hB1 := hB0.alloc hB0.size (.cells (madeCells #[.int .u32 0] m) 24)
  rw [hz0] at ho1
  generalize W2.alloc (.cells (madeCells #[.int .u32 0] m) 24) = W at hb1 hr1 ho1 hB1 ⊢
  clear hb0 hr0 hB0 hz0
  have hl1 : ((List.range m).map (fun i => Value.int .u32 (Z i))).length = m := by simp
  have hl2 : (madeCells #[Value.int .u32 0] m).toList.length = m := by simp [size_madeCells]
  have ho2 : W.heap[w.heap.size + 1 + 1]? = some (.cells (madeCells #[.int .u32 0] m).toList.toArray 24 (0, 0)) := ho1
  have hsrc : 0 < ((List.range m).map (fun i => Value.int .u32 (Z i))).length → (some (⟨w.heap.size + 1 + 1, 0, none⟩ : Addr)) = some ⟨w.heap.size + 1 + 1, 0, none⟩ ∧ ∃ ad, A = some ad ∧ ∀ j v, ((List.range m).map (fun i => Value.int .u32 (Z i)))[j]? = some v → W.cell? (ad.add j) = some v := by
    intro hp
    rw [hl1] at hp
    obtain ⟨b, off, rfl, hlt, hc⟩ := HS.out hp
    refine ⟨rfl, ⟨b, off, none⟩, rfl, fun j v hj => ?_⟩
    have hjm : j < m := by
      have := (List.getElem?_eq_some_iff.1 hj).1
      rwa [hl1] at this
    rw [add_plain]
    have e : v = .int .u32 (Z j) := by simpa [hjm] using hj.symm
    rw [e]
    exact keepAt hB1 hlt (hc j hjm)
  have hone : ∀ v ∈ (List.range m).map (fun i => Value.int .u32 (Z i)), v.oneCell' = true := by
    intro v hv
    obtain ⟨i, _, rfl⟩ := List.mem_map.1 hv
    rfl
  have hmin : ((List.range m).map (fun i => Value.int .u32 (Z i))).length = Nat.min m m := by rw [hl1]; exact (Nat.min_self m).symm
  have hfit : 0 + ((List.range m).map (fun i => Value.int .u32 (Z i))).length ≤ (madeCells #[Value.int .u32 0] m).toList.length := by rw [hl1, hl2]; omega
  have HX := Lib.hid (And.intro hl1 hl2)
  have X1 := Lib.hid hsrc
  have X2 := Lib.hid hone
  have X3 := Lib.hid hmin
  have X4 := Lib.hid hfit
  have X5 := Lib.hid ho2
  clear hl1 hl2 hsrc hone hmin hfit ho2
  go_wp2_with (refine wpList_copy_splice rfl (.tmp 13) (.tmp 14) 49 49 rfl 24 Try.underlying49 (by kernel_rfl) (some ⟨w.heap.size + 1 + 1, 0, none⟩) A m m m cap rfl rfl (w.heap.size + 1 + 1) 0 _ 24 X5.out ((List.range m).map (fun i => Value.int .u32 (Z i))) X3.out X1.out X4.out X2.out (w.heap.size + 1 + 1) W (Below.refl _ _) (Nat.le_refl _) ?_; intro W3 ho3 hB3)
  obtain ⟨hl1, hl2⟩ := HX.out
  have ho4 : Blk W3 (w.heap.size + 1 + 1) 24 ((List.range m).map (fun i => Value.int .u32 (Z i))).toArray := by
    have := ho3.out
    rw [splice_all _ _ (by rw [hl1, hl2])] at this
    exact this
  have hb3 := hb1.below hB3 (by omega)
  have hr3 := hr1.below hB3 (by omega)
  have hB4 : Below w.heap.size w W3 := hB1.trans (hB3.mono (by omega))
  have hD0 : ∀ i, i < m → ((List.range m).map (fun i => Value.int .u32 (Z i))).toArray[i]? = some (.int .u32 (drained [] Z i)) := fun i hi => by simp [hi, drained]
  have hDs : ((List.range m).map (fun i => Value.int .u32 (Z i))).toArray.size = m := by simp
  generalize ((List.range m).map (fun i => Value.int .u32 (Z i))).toArray = D0 at ho4 hD0 hDs
  clear ho3 hB3 hb1 hr1 ho1 hB1 hl1 hl2 X1 X2 X3 X4 X5 HX
  go_loopg [9] l.length (fun gk s wr => ∃ (cs2 D : Array Value) (l1 l2 : List Ent), l = l1 ++ l2 ∧ l2.length = gk ∧ Buf cs2 l2 room ∧ Blk wr w.heap.size 29 cs2 ∧ Blk wr (w.heap.size + 1) 29 (emptyCells 0) ∧ Blk wr (w.heap.size + 1 + 1) 24 D ∧ D.size = m ∧
    (∀ i, i < m → D[i]? = some (.int .u32 (drained l1 Z i))) ∧ Below w.heap.size w wr)
  case atStart => exact ⟨cs, D0, [], l, rfl, rfl, h, hb3, hr3, ho4, hDs, hD0, hB4⟩
  case round =>
    clear hb3 hr3 ho4 hDs hD0 hB4
    obtain ⟨cs2, D, l1, l2, hl, hgk, hbuf, hbr, hrr, hor, hD, hDD, hBr⟩ := hrel
    have HD := Lib.hid hDD
    have HL := Lib.hid (And.intro hl hgk)
    clear hDD hl hgk
    have hlt2 := hor.lt
    rcases l2 with _ | ⟨x, t⟩
    · obtain rfl : l = l1 := by have := HL.out.1; simpa using this
      have cP := pop_none cs2 room hbuf
      go_wp2_with (refine wpList_load_row rfl 29 (.tmp 2) rfl _ rfl 29 cs2 (0, 0) _ hbr Try.underlying29 rfl hbuf.info ?_)
      refine (cP _).mono ?_
      rintro e' w4 ⟨rfl, hb4⟩
      have hl4 := hb4.size
      have hA4 := Below.refl w4.heap.size w4
      have hA6 := (hA4.alloc hA4.size (Obj.cells (entCells (0, 0)) 26)).alloc (hA4.alloc hA4.size (Obj.cells (entCells (0, 0)) 26)).size (Obj.cells (emptyCells 0) 29)
      unfold entCells at hA6 ⊢
      clear cP
      go_upto_region 5 with (refine wpList_store_row rfl 29 (.tmp 8) (.tmp 20) rfl _ rfl cs2 rfl 29 (emptyCells 0) (Blk.new2 _ _ _ _) (hE.sizeE hbuf) hbuf.info hbuf.all ?_; intro w9 hb9 hg9; have hA9 := below_row hA6 hg9 hA6.size (by omega); clear hg9 hA6 hb9)
      have hA := step_below (show Below _ _ _ from hb4) hA9
      have hbr9 := hbr.below hA hbr.lt
      have hr9 := hrr.below hA hrr.lt
      have ho9 := hor.below hA hor.lt
      have hB9 := step_below hBr hA
      clear hA hA9 hb4 hbr hrr hor hBr
      have hbd := hbr9.drew
      have hrd := hr9.drew
      have hod := ho9.drew
      have hBd := hB9.drew
      clear hbr9 hr9 ho9 hB9
      refine startG (fun W' => Blk W' w.heap.size 29 cs2) 3 (by kernel_rfl) ?_
      generalize w9.drew = W1 at hbd hrd hod hBd
      refine takeG (i := 0) (v := .slice (some ⟨w.heap.size + 1 + 1, 0, none⟩) m m) rfl (by kernel_rfl) (by kernel_rfl) (by kernel_rfl) (by kernel_rfl) (fun _ _ _ h => h) (Or.inl ⟨by rfl, fun W hW => by go_simp⟩) hbd ?_
      try simp only [Act.put, List.setIfInBounds_toArray, List.set_cons_zero, List.set_cons_succ]
      refine takeG (i := 1) (v := .agg cs2) rfl (by kernel_rfl) (by kernel_rfl) (by kernel_rfl) (by kernel_rfl) (fun _ _ _ h => h) (yields_row (by rfl) 29 (.tmp 2) rfl w.heap.size rfl cs2 (fun _ hS => run_buf hbuf hS)) hbd ?_
      try simp only [Act.put, List.setIfInBounds_toArray, List.set_cons_zero, List.set_cons_succ]
      refine takeG (i := 2) (v := .slice (some ⟨w.heap.size + 1 + 1, 0, none⟩) m m) rfl (by kernel_rfl) (by kernel_rfl) (by kernel_rfl) (by kernel_rfl) (fun _ _ _ h => h) (Or.inl ⟨by rfl, fun W hW => by go_simp⟩) hbd ?_
      try simp only [Act.put, List.setIfInBounds_toArray, List.set_cons_zero, List.set_cons_succ]
      refine lastG (by kernel_rfl) rfl (by kernel_rfl) (fun K hK => ?_)
      refine step_store_row rfl 29 (.tmp 5) (.tmp 25) rfl _ rfl cs2 rfl 29 (emptyCells 0) hrd (hE.sizeE hbuf) hbuf.info hbuf.all ?_
      intro W3 hr3 hg3
      have ho3 := hod.grown hg3 (fun e => by injection e with e; omega)
      have hB3 := below_row hBd hg3 hBd.size (by omega)
      refine hK.out _ _ ?_
      clear hK K
      simp only [Act.put, List.getElem_toArray, List.getElem_cons_zero, List.getElem_cons_succ, List.setIfInBounds_toArray, List.set_cons_zero, List.set_cons_succ]
      go_wp2_with fail
      refine bodyPost_ret (results_tmp_row rfl _ _ _ _ rfl (run_buf hbuf hr3)) rfl ?_
      exact ⟨w.heap.size + 1 + 1, cs2, D, by omega, rfl, hbuf, ho3, hD, HD.out, hB3⟩
    · have cP := pop_some cs2 x t room hbuf
      go_wp2_with (refine wpList_load_row rfl 29 (.tmp 2) rfl _ rfl 29 cs2 (0, 0) _ hbr Try.underlying29 rfl hbuf.info ?_)
      refine (cP _).mono ?_
      rintro e' w4 ⟨cs3, h3, rfl, hb4⟩
      have hl4 := hb4.size
      have hA4 := Below.refl w4.heap.size w4
      have hA6 := (hA4.alloc hA4.size (Obj.cells (entCells x) 26)).alloc (hA4.alloc hA4.size (Obj.cells (entCells x) 26)).size (Obj.cells (emptyCells 0) 29)
      have hx6 := (Blk.new w4 26 (entCells x)).alloc (Obj.cells (emptyCells 0) 29)
      unfold entCells at hA6 hx6 ⊢
      clear cP
      go_upto_region 6 with (refine wpList_store_row rfl 29 (.tmp 8) (.tmp 20) rfl _ rfl cs3 rfl 29 (emptyCells 0) (Blk.new2 _ _ _ _) (hE.sizeE h3) h3.info h3.all ?_; intro w9 hb9 hg9; have hA9 := below_row hA6 hg9 hA6.size (by omega); have hx9 := hx6.grown hg9 (fun e => by injection e with e; omega); clear hg9 hA6 hx6)
      have hA := step_below (show Below _ _ _ from hb4) hA9
      have hbr9 := hbr.below hA hbr.lt
      have hr9 := hrr.below hA hrr.lt
      have ho9 := hor.below hA hor.lt
      have hB9 := step_below hBr hA
      have hxl : w.heap.size + 1 + 1 < w4.heap.size := Nat.lt_of_lt_of_le hlt2 hl4
      clear hA hA9 hb4 hbr hrr hor hBr
      generalize w4.heap.size = gx at hx9 hxl hb9 ⊢
      go_upto_region 7 with (first
        | (refine wpList_load_row rfl 29 (.tmp 8) rfl _ rfl 29 cs3 (0, 0) _ hb9 Try.underlying29 rfl h3.info ?_)
        | (refine wpList_store_row rfl 29 (.tmp 2) (.tmp 26) rfl _ rfl cs3 rfl 29 cs2 hbr9 (hbuf.sizeE h3) h3.info h3.all ?_; intro w11 hb11 hg11; have hB11 := below_row hB9 hg11 hB9.size (Nat.le_refl _); have hr11 := hr9.grown hg11 (fun e => by injection e with e; omega); have ho11 := ho9.grown hg11 (fun e => by injection e with e; omega); have hx11 := hx9.grown hg11 (fun e => by injection e with e; omega); clear hg11 hbr9 hB9 hr9 ho9 hx9 hb9))
      have x0 := hx11.cell 0
      have x1 := hx11.cell 1
      simp only [List.getElem?_toArray, List.getElem?_cons_zero, List.getElem?_cons_succ] at x0 x1
      have hll : l = (l1 ++ [x]) ++ t ∧ t.length < gk := by
        obtain ⟨q1, q2⟩ := HL.out
        exact ⟨by rw [q1]; simp, by simp at q2; omega⟩
      have HLL := Lib.hid hll
      clear hll hx11
      obtain ⟨xa, xv⟩ := x
      by_cases hin : 0 ≤ xa ∧ xa < (m : Int)
      · obtain ⟨a, rfl⟩ : ∃ a : Nat, xa = (a : Int) := ⟨xa.toNat, by omega⟩
        have ham : a < m := by omega
        have ham2 : (a : Int) < (m : Int) := by omega
        have ha0 : (0 : Int) ≤ (a : Int) := by omega
        have oc := (ho11.cell a).trans (HD.out a ham)
        have fc := ho11.frozen a
        clear hin
        go_wp2_with fail
        go_roundg t.length
        case measure => exact HLL.out.2
        case rel =>
          refine ⟨cs3, _, l1 ++ [((a : Int), xv)], t, HLL.out.1, rfl, h3, hb11.far (fun e => by dsimp only at e; omega) _, hr11.far (fun e => by dsimp only at e; omega) _, ho11.set_ a (.int .u32 xv), by simpa using hD, fun i hi => ?_, hB11.setCell (by simp; omega) _⟩
          rw [drained_snoc]
          unfold putM
          by_cases hia : i = a
          · subst hia
            rw [if_pos rfl, Array.getElem?_setIfInBounds_self_of_lt (by omega)]
          · rw [if_neg (by simp; omega), Array.getElem?_setIfInBounds_ne (by omega)]
            exact HD.out i hi
      · have HN := Lib.hid hin
        by_cases h0 : 0 ≤ xa
        · have h1 : ¬ xa < (m : Int) := fun hh => hin ⟨h0, hh⟩
          clear hin
          go_wp2_with fail
          go_roundg t.length
          case measure => exact HLL.out.2
          case rel =>
            refine ⟨cs3, D, l1 ++ [(xa, xv)], t, HLL.out.1, rfl, h3, hb11, hr11, ho11, hD, fun i hi => ?_, hB11⟩
            rw [drained_snoc]
            unfold putM
            rw [if_neg (by simp only []; omega)]
            exact HD.out i hi
        · clear hin
          go_wp2_with fail
          go_roundg t.length
          case measure => exact HLL.out.2
          case rel =>
            refine ⟨cs3, D, l1 ++ [(xa, xv)], t, HLL.out.1, rfl, h3, hb11, hr11, ho11, hD, fun i hi => ?_, hB11⟩
            rw [drained_snoc]
            unfold putM
            rw [if_neg (by simp only []; omega)]
            exact HD.out i hi
end Go.Proofs.Ytaanmamgmjhegaa
