/- asm.Builder: Do, Go (printed by gen/bld.py). -/
import Derived.Test.YtmhfpjnkjlhbpaaGreatDoorBldI
namespace Go.Proofs.YtmhfpjnkjlhbpaaGreatDoor
open Go.ChangeShapes Go.WideShapes Go.ChangeAt Go.RowKit Go.Deep
set_option linter.unusedVariables false
set_option maxRecDepth 100000
set_option linter.unusedSimpArgs false

theorem link_info5 : (Tryz.prog.info? 184).map (fun i => (i.zero, i.size, i.bytes)) = some (some (.agg #[.int .i64 0, .string ⟨#[]⟩]), 2, 24) := by kernel_rfl
theorem ins_infoB : (Tryz.prog.info? 75).map (·.size) = some 5 := by kernel_rfl
theorem lkc_one (x : Nat × List UInt8) : ∀ k, k < 1 * 2 → ((lkc x).getD k undef).oneCell' = true := fun k hk => by
  rcases (by omega : k = 0 ∨ k = 1) with rfl | rfl <;> rfl
theorem insc_one (x : Ins) : ∀ k, k < 1 * 5 → (x.cells.getD k undef).oneCell' = true := fun k hk => by
  rcases (by omega : k = 0 ∨ k = 1 ∨ k = 2 ∨ k = 3 ∨ k = 4) with rfl | rfl | rfl | rfl | rfl <;> rfl

set_option maxHeartbeats 2000000 in
theorem bdo_any (N0 bb : Nat) (b : BB) (x : Ins) (W : World) (h : BI N0 W bb b) (hn : b.code.length ≤ 1000) :
    Calls Tryz.prog 102 #[.pointer (some ⟨bb, 0, none⟩), .agg #[.int .i64 x.op, .int .i64 x.a, .int .i64 x.b, .int .i64 x.c, .int .u32 x.k]] W fun e W' => (∃ u, e = .returned u) ∧ BI N0 W' bb { b with code := b.code ++ [x] } ∧ BelF N0 W W' := by
  obtain ⟨vc, vl, mo, hP⟩ := h
  obtain ⟨i0, hi, hy0, hy1, hy2⟩ := info_parts insB_info5
  have hal := (Below.refl W.heap.size W).alloc (Nat.le_refl _) (.cells #[.int .i64 x.op, .int .i64 x.a, .int .i64 x.b, .int .i64 x.c, .int .u32 x.k] 75)
  have hP2 := hP.below hal
  obtain ⟨A, cap, ec, hcc, hcm⟩ := own_cap hP.code
  obtain ⟨n, hn0⟩ : ∃ n, b.code.length = n := ⟨_, rfl⟩
  rw [hn0] at ec
  subst ec
  have hX := Blk.new W 75 #[.int .i64 x.op, .int .i64 x.a, .int .i64 x.b, .int .i64 x.c, .int .u32 x.k]
  have hXn : some W.heap.size ≠ (Value.slice A n cap).ownBlock := fun e => by have := (own_in hP.code _ e.symm).2; omega
  have hBn := row_ne hP2.blk hP2.code (by decide)
  have HX := Lib.hid (And.intro hX.drew hXn)
  have HB := Lib.hid (And.intro hP2.blk.drew hBn)
  have HE0 := Lib.hid (fun (W' : World) (v' : Value) (k1 : (W.alloc (.cells #[.int .i64 x.op, .int .i64 x.a, .int .i64 x.b, .int .i64 x.c, .int .u32 x.k] 75)).drew.grownBy W' (Value.slice A n cap).ownBlock) (k2 : W'.ownsRow N0 75 5 v' (n + 1) (b.code.flatMap Ins.cells ++ x.cells)) =>
    (show BI N0 (W'.setCell ⟨bb, 0, none⟩ v') bb { b with code := b.code ++ [x] } ∧ BelF N0 W (W'.setCell ⟨bb, 0, none⟩ v') from by
      have hD : BParts N0 (W.alloc (.cells #[.int .i64 x.op, .int .i64 x.a, .int .i64 x.b, .int .i64 x.c, .int .u32 x.k] 75)).drew bb b _ vl mo := hP2.below (below_drewB _)
      obtain ⟨q1, q2⟩ := hD.addCode (x := x) k1 (by rw [hn0]; exact k2)
      exact ⟨q1, ((BelF.of hal hP.lt).trans (BelF.of (below_drewB _) (Nat.le_trans hP.lt hal.size))).trans q2⟩))
  have HR := Lib.hid (And.intro (show (W.alloc (.cells #[.int .i64 x.op, .int .i64 x.a, .int .i64 x.b, .int .i64 x.c, .int .u32 x.k] 75)).drew.ownsRow N0 75 5 (.slice A n cap) n (b.code.flatMap Ins.cells) from by have hc := hP2.code; rw [hn0] at hc; exact hc) (show N0 ≤ (W.alloc (.cells #[.int .i64 x.op, .int .i64 x.a, .int .i64 x.b, .int .i64 x.c, .int .u32 x.k] 75)).drew.heap.size from Nat.le_trans hP.lt hal.size))
  rw [hn0] at hn
  clear hP hP2 hX hXn hBn hal hcc hcm hn0
  go_enter Tryz.func102, Tryz.ntmps102
  go_wp2
  refine startG (fun W' => (W.alloc (.cells #[.int .i64 x.op, .int .i64 x.a, .int .i64 x.b, .int .i64 x.c, .int .u32 x.k] 75)).drew.grownBy W' (Value.slice A n cap).ownBlock) 10 (by kernel_rfl) ?_
  obtain ⟨xb, hxb⟩ : ∃ xb, W.heap.size = xb := ⟨_, rfl⟩
  rw [hxb] at HX
  try rw [hxb]
  generalize (W.alloc (.cells #[.int .i64 x.op, .int .i64 x.a, .int .i64 x.b, .int .i64 x.c, .int .u32 x.k] 75)).drew = W2 at HX HB HR HE0 ⊢
  have hg0 : W2.grownBy W2 (Value.slice A n cap).ownBlock := World.grownBy.refl _ _
  refine takeG0 (i := 0) (v := .pointer (some ⟨bb, 0, none⟩)) rfl (by kernel_rfl) (by kernel_rfl) (by kernel_rfl) (by kernel_rfl) (fun _ _ _ h => h) (Or.inl ⟨by rfl, fun W hW => by go_simp⟩) hg0 ?_
  simp only [Act.put, List.getElem_toArray, List.getElem_cons_zero, List.getElem_cons_succ, List.setIfInBounds_toArray, List.set_cons_zero, List.set_cons_succ]
  refine takeG0 (i := 1) (v := .pointer (some ⟨bb, 0, none⟩)) rfl (by kernel_rfl) (by kernel_rfl) (by kernel_rfl) (by kernel_rfl) (fun _ _ _ h => h) (Or.inl ⟨by rfl, fun W hW => by go_simp⟩) hg0 ?_
  simp only [Act.put, List.getElem_toArray, List.getElem_cons_zero, List.getElem_cons_succ, List.setIfInBounds_toArray, List.set_cons_zero, List.set_cons_succ]
  refine takeG0 (i := 2) (v := .pointer (some ⟨bb, 0, none⟩)) rfl (by kernel_rfl) (by kernel_rfl) (by kernel_rfl) (by kernel_rfl) (fun _ _ _ h => h) (Or.inl ⟨by rfl, fun W hW => by go_simp⟩) hg0 ?_
  simp only [Act.put, List.getElem_toArray, List.getElem_cons_zero, List.getElem_cons_succ, List.setIfInBounds_toArray, List.set_cons_zero, List.set_cons_succ]
  refine takeG0 (i := 3) (v := .pointer (some ⟨bb, 0, none⟩)) rfl (by kernel_rfl) (by kernel_rfl) (by kernel_rfl) (by kernel_rfl) (fun _ _ _ h => h) (Or.inl ⟨by rfl, fun W hW => by go_simp⟩) hg0 ?_
  simp only [Act.put, List.getElem_toArray, List.getElem_cons_zero, List.getElem_cons_succ, List.setIfInBounds_toArray, List.set_cons_zero, List.set_cons_succ]
  refine takeG (i := 4) (v := .slice A n cap) rfl (by kernel_rfl) (by kernel_rfl) (by kernel_rfl) (by kernel_rfl) (fun _ _ _ h => h) (Or.inl ⟨by rfl, fun W hW => by have q0 := ((HB.out.1.grown hW HB.out.2).cell 0).trans rfl; go_simp⟩) hg0 ?_
  simp only [Act.put, List.getElem_toArray, List.getElem_cons_zero, List.getElem_cons_succ, List.setIfInBounds_toArray, List.set_cons_zero, List.set_cons_succ]
  refine takeG (i := 5) (v := .agg #[.int .i64 x.op, .int .i64 x.a, .int .i64 x.b, .int .i64 x.c, .int .u32 x.k]) rfl (by kernel_rfl) (by kernel_rfl) (by kernel_rfl) (by kernel_rfl) (fun _ _ _ h => h) (yields_row (by rfl) 75 (.tmp 3) rfl xb rfl #[.int .i64 x.op, .int .i64 x.a, .int .i64 x.b, .int .i64 x.c, .int .u32 x.k] (fun _ hS => run_row _ _ _ _ _ _ (HX.out.1.grown hS HX.out.2) Tryz.underlying75 rfl ins_infoB)) hg0 ?_
  simp only [Act.put, List.getElem_toArray, List.getElem_cons_zero, List.getElem_cons_succ, List.setIfInBounds_toArray, List.set_cons_zero, List.set_cons_succ]
  refine onlyG (i := 6) (by kernel_rfl) rfl (fun K hK => ?_)
  go_simp
  have hA : W2.grownBy (W2.alloc (.cells #[.int .i64 x.op, .int .i64 x.a, .int .i64 x.b, .int .i64 x.c, .int .u32 x.k] 75)) (Value.slice A n cap).ownBlock := grown_alloc (World.grownBy.refl _ _) _
  have own2 := own_below HR.out.1 (Nat.le_refl _) ((Below.refl W2.heap.size W2).alloc (Nat.le_refl _) (.cells #[.int .i64 x.op, .int .i64 x.a, .int .i64 x.b, .int .i64 x.c, .int .u32 x.k] 75))
  have src := sl_new W2 75 x.cells
  have hNW := Nat.le_trans HR.out.2 hA.size
  refine hK.out _ _ hA (fun _ => ?_)
  clear hK K
  try simp only [Act.put, List.getElem_toArray, List.getElem_cons_zero, List.getElem_cons_succ, List.setIfInBounds_toArray, List.set_cons_zero, List.set_cons_succ]
  refine onlyG (i := 7) (by kernel_rfl) rfl (fun K hK => ?_)
  rw [if_pos (by rfl)]
  refine wp_append_sl _ (.tmp 8) (.tmp 10) 50 rfl N0 75 i0 _ 5 40 Tryz.underlying50 hi hy0 hy1 hy2 rfl (by omega) _ n _ rfl own2 _ 1 _ (fun i => x.cells.getD i undef) rfl src (insc_one x) (by unfold maxLen; omega) (by omega) hNW ?_
  intro v4 W4 own4 hg4 hv4
  rw [range_getD x.cells (1 * 5) rfl] at own4
  have hg4' := grown_trans' hA hg4
  obtain ⟨A4, cap4, rfl, _, _⟩ := own_sl own4
  have y6 := ((HB.out.1.grown hg4' HB.out.2).cell 0).trans rfl
  have f6 := (HB.out.1.grown hg4' HB.out.2).frozen 0
  refine hK.out _ _ hg4' (fun _ => ?_)
  clear hK K hg4 hv4 own2 src hA
  try simp only [Act.put, List.getElem_toArray, List.getElem_cons_zero, List.getElem_cons_succ, List.setIfInBounds_toArray, List.set_cons_zero, List.set_cons_succ]
  refine takeG0 (i := 8) (v := .pointer (some ⟨bb, 0, none⟩)) rfl (by kernel_rfl) (by kernel_rfl) (by kernel_rfl) (by kernel_rfl) (fun _ _ _ h => h) (Or.inl ⟨by rfl, fun W hW => by go_simp⟩) hg4' ?_
  simp only [Act.put, List.getElem_toArray, List.getElem_cons_zero, List.getElem_cons_succ, List.setIfInBounds_toArray, List.set_cons_zero, List.set_cons_succ]
  refine takeG0 (i := 9) (v := .pointer (some ⟨bb, 0, none⟩)) rfl (by kernel_rfl) (by kernel_rfl) (by kernel_rfl) (by kernel_rfl) (fun _ _ _ h => h) (Or.inl ⟨by rfl, fun W hW => by go_simp⟩) hg4' ?_
  simp only [Act.put, List.getElem_toArray, List.getElem_cons_zero, List.getElem_cons_succ, List.setIfInBounds_toArray, List.set_cons_zero, List.set_cons_succ]
  refine lastG (by kernel_rfl) rfl (by kernel_rfl) (fun K hK => ?_)
  go_simp
  refine hK.out _ _ ?_
  clear hK K
  have HE := Lib.hid (HE0.out _ _ hg4' own4)
  clear own4 hg4' y6 f6
  go_wp2
  go_end0
  exact ⟨⟨_, rfl⟩, HE.out⟩

set_option maxHeartbeats 2000000 in
theorem bgo_any (N0 bb : Nat) (b : BB) (op a : Int) (s : List UInt8) (W : World) (h : BI N0 W bb b) (hn : b.code.length ≤ 1000) (hl : b.links.length ≤ 1000) :
    Calls Tryz.prog 97 #[.pointer (some ⟨bb, 0, none⟩), .int .i64 op, .int .i64 a, str s] W fun e W' => (∃ u, e = .returned u) ∧ BI N0 W' bb { b with code := b.code ++ [⟨op, a, 0, 0, 0⟩], links := b.links ++ [(b.code.length, s)] } ∧ BelF N0 W W' := by
  have hI := h
  obtain ⟨vc, vl, mo, hP⟩ := h
  obtain ⟨i0, hi, hy0, hy1, hy2⟩ := info_parts link_info5
  obtain ⟨A, cap, ec, hcc, hcm⟩ := own_cap hP.links
  obtain ⟨n, hn0⟩ : ∃ n, b.links.length = n := ⟨_, rfl⟩
  rw [hn0] at ec
  subst ec
  obtain ⟨AC, capc, rfl, _, _⟩ := own_cap hP.code
  have hBn := row_ne hP.blk hP.links (by decide)
  have HB := Lib.hid (And.intro hP.blk.drew hBn)
  have HE0 := Lib.hid (fun (W' : World) (v' : Value) (k1 : W.drew.grownBy W' (Value.slice A n cap).ownBlock) (k2 : W'.ownsRow N0 184 2 v' (n + 1) (b.links.flatMap lkc ++ lkc (b.code.length, s))) =>
    (show BI N0 (W'.setCell ⟨bb, 2, none⟩ v') bb { b with links := b.links ++ [(b.code.length, s)] } ∧ BelF N0 W (W'.setCell ⟨bb, 2, none⟩ v') from by
      have hD : BParts N0 W.drew bb b _ _ mo := hP.below (below_drewB _)
      obtain ⟨q1, q2⟩ := hD.addLink (x := (b.code.length, s)) k1 (by rw [hn0]; exact k2)
      exact ⟨q1, (BelF.of (below_drewB W) hP.lt).trans q2⟩))
  have HR := Lib.hid (And.intro (show W.drew.ownsRow N0 184 2 (.slice A n cap) n (b.links.flatMap lkc) from by have hc := hP.links; rw [hn0] at hc; exact hc) (show N0 ≤ W.drew.heap.size from hP.lt))
  rw [hn0] at hl
  obtain ⟨m, hm⟩ : ∃ m, b.code.length = m := ⟨_, rfl⟩
  have hmm : m ≤ 1000 := by omega
  rw [hm] at HB HE0
  clear hP hBn hcc hcm hn0
  have HI := Lib.hid (show ∀ W', BI N0 W' bb { b with links := b.links ++ [(m, s)] } → Calls Tryz.prog 102 #[.pointer (some ⟨bb, 0, none⟩), .agg #[.int .i64 op, .int .i64 a, .int .i64 0, .int .i64 0, .int .u32 0]] W' fun e W'' => (∃ u, e = .returned u) ∧ BI N0 W'' bb { b with code := b.code ++ [⟨op, a, 0, 0, 0⟩], links := b.links ++ [(m, s)] } ∧ BelF N0 W' W'' from fun W' k => bdo_any N0 bb { b with links := b.links ++ [(m, s)] } ⟨op, a, 0, 0, 0⟩ W' k hn)
  rw [hm]
  clear hn hI
  unfold str
  go_enter Tryz.func97, Tryz.ntmps97
  go_wp2
  refine startG (fun W' => W.drew.grownBy W' (Value.slice A n cap).ownBlock) 16 (by kernel_rfl) ?_
  generalize hW2 : W.drew = W2 at HB HR HE0 ⊢
  have hg0 : W2.grownBy W2 (Value.slice A n cap).ownBlock := World.grownBy.refl _ _
  refine takeG0 (i := 0) (v := .pointer (some ⟨bb, 0, none⟩)) rfl (by kernel_rfl) (by kernel_rfl) (by kernel_rfl) (by kernel_rfl) (fun _ _ _ h => h) (Or.inl ⟨by rfl, fun W hW => by go_simp⟩) hg0 ?_
  simp only [Act.put, List.getElem_toArray, List.getElem_cons_zero, List.getElem_cons_succ, List.setIfInBounds_toArray, List.set_cons_zero, List.set_cons_succ]
  refine takeG0 (i := 1) (v := .pointer (some ⟨bb, 0, none⟩)) rfl (by kernel_rfl) (by kernel_rfl) (by kernel_rfl) (by kernel_rfl) (fun _ _ _ h => h) (Or.inl ⟨by rfl, fun W hW => by go_simp⟩) hg0 ?_
  simp only [Act.put, List.getElem_toArray, List.getElem_cons_zero, List.getElem_cons_succ, List.setIfInBounds_toArray, List.set_cons_zero, List.set_cons_succ]
  refine takeG0 (i := 2) (v := .pointer (some ⟨bb, 0, none⟩)) rfl (by kernel_rfl) (by kernel_rfl) (by kernel_rfl) (by kernel_rfl) (fun _ _ _ h => h) (Or.inl ⟨by rfl, fun W hW => by go_simp⟩) hg0 ?_
  simp only [Act.put, List.getElem_toArray, List.getElem_cons_zero, List.getElem_cons_succ, List.setIfInBounds_toArray, List.set_cons_zero, List.set_cons_succ]
  refine takeG0 (i := 3) (v := .pointer (some ⟨bb, 2, none⟩)) rfl (by kernel_rfl) (by kernel_rfl) (by kernel_rfl) (by kernel_rfl) (fun _ _ _ h => h) (Or.inl ⟨by rfl, fun W hW => by go_simp⟩) hg0 ?_
  simp only [Act.put, List.getElem_toArray, List.getElem_cons_zero, List.getElem_cons_succ, List.setIfInBounds_toArray, List.set_cons_zero, List.set_cons_succ]
  refine takeG (i := 4) (v := .slice A n cap) rfl (by kernel_rfl) (by kernel_rfl) (by kernel_rfl) (by kernel_rfl) (fun _ _ _ h => h) (Or.inl ⟨by rfl, fun W hW => by have q0 := ((HB.out.1.grown hW HB.out.2).cell 2).trans rfl; go_simp⟩) hg0 ?_
  simp only [Act.put, List.getElem_toArray, List.getElem_cons_zero, List.getElem_cons_succ, List.setIfInBounds_toArray, List.set_cons_zero, List.set_cons_succ]
  refine takeG0 (i := 5) (v := .pointer (some ⟨bb, 0, none⟩)) rfl (by kernel_rfl) (by kernel_rfl) (by kernel_rfl) (by kernel_rfl) (fun _ _ _ h => h) (Or.inl ⟨by rfl, fun W hW => by go_simp⟩) hg0 ?_
  simp only [Act.put, List.getElem_toArray, List.getElem_cons_zero, List.getElem_cons_succ, List.setIfInBounds_toArray, List.set_cons_zero, List.set_cons_succ]
  refine takeG0 (i := 6) (v := .pointer (some ⟨bb, 0, none⟩)) rfl (by kernel_rfl) (by kernel_rfl) (by kernel_rfl) (by kernel_rfl) (fun _ _ _ h => h) (Or.inl ⟨by rfl, fun W hW => by go_simp⟩) hg0 ?_
  simp only [Act.put, List.getElem_toArray, List.getElem_cons_zero, List.getElem_cons_succ, List.setIfInBounds_toArray, List.set_cons_zero, List.set_cons_succ]
  refine takeG0 (i := 7) (v := .pointer (some ⟨bb, 0, none⟩)) rfl (by kernel_rfl) (by kernel_rfl) (by kernel_rfl) (by kernel_rfl) (fun _ _ _ h => h) (Or.inl ⟨by rfl, fun W hW => by go_simp⟩) hg0 ?_
  simp only [Act.put, List.getElem_toArray, List.getElem_cons_zero, List.getElem_cons_succ, List.setIfInBounds_toArray, List.set_cons_zero, List.set_cons_succ]
  refine takeG (i := 8) (v := .slice AC m capc) rfl (by kernel_rfl) (by kernel_rfl) (by kernel_rfl) (by kernel_rfl) (fun _ _ _ h => h) (Or.inl ⟨by rfl, fun W hW => by have q0 := ((HB.out.1.grown hW HB.out.2).cell 0).trans rfl; go_simp⟩) hg0 ?_
  simp only [Act.put, List.getElem_toArray, List.getElem_cons_zero, List.getElem_cons_succ, List.setIfInBounds_toArray, List.set_cons_zero, List.set_cons_succ]
  refine takeG0 (i := 9) (v := .int .i64 (m : Int)) rfl (by kernel_rfl) (by kernel_rfl) (by kernel_rfl) (by kernel_rfl) (fun _ _ _ h => h) (Or.inl ⟨by rfl, fun W hW => by go_simp⟩) hg0 ?_
  simp only [Act.put, List.getElem_toArray, List.getElem_cons_zero, List.getElem_cons_succ, List.setIfInBounds_toArray, List.set_cons_zero, List.set_cons_succ]
  refine takeG0 (i := 10) (v := .string ⟨s.toArray⟩) rfl (by kernel_rfl) (by kernel_rfl) (by kernel_rfl) (by kernel_rfl) (fun _ _ _ h => h) (Or.inl ⟨by rfl, fun W hW => by go_simp⟩) hg0 ?_
  simp only [Act.put, List.getElem_toArray, List.getElem_cons_zero, List.getElem_cons_succ, List.setIfInBounds_toArray, List.set_cons_zero, List.set_cons_succ]
  refine takeG0 (i := 11) (v := .agg #[.int .i64 (m : Int), .string ⟨s.toArray⟩]) rfl (by kernel_rfl) (by kernel_rfl) (by kernel_rfl) (by kernel_rfl) (fun _ _ _ h => h) (Or.inl ⟨by rfl, fun W hW => by go_simp⟩) hg0 ?_
  simp only [Act.put, List.getElem_toArray, List.getElem_cons_zero, List.getElem_cons_succ, List.setIfInBounds_toArray, List.set_cons_zero, List.set_cons_succ]
  refine onlyG (i := 12) (by kernel_rfl) rfl (fun K hK => ?_)
  go_simp
  have hA : W2.grownBy (W2.alloc (.cells #[.int .i64 (m : Int), .string ⟨s.toArray⟩] 184)) (Value.slice A n cap).ownBlock := grown_alloc (World.grownBy.refl _ _) _
  have own2 := own_below HR.out.1 (Nat.le_refl _) ((Below.refl W2.heap.size W2).alloc (Nat.le_refl _) (.cells #[.int .i64 (m : Int), .string ⟨s.toArray⟩] 184))
  have src := sl_new W2 184 (lkc (m, s))
  have hNW := Nat.le_trans HR.out.2 hA.size
  refine hK.out _ _ hA (fun _ => ?_)
  clear hK K
  try simp only [Act.put, List.getElem_toArray, List.getElem_cons_zero, List.getElem_cons_succ, List.setIfInBounds_toArray, List.set_cons_zero, List.set_cons_succ]
  refine onlyG (i := 13) (by kernel_rfl) rfl (fun K hK => ?_)
  rw [if_pos (by rfl)]
  refine wp_append_sl _ (.tmp 12) (.tmp 20) 128 rfl N0 184 i0 _ 2 24 Tryz.underlying128 hi hy0 hy1 hy2 rfl (by omega) _ n _ rfl own2 _ 1 _ (fun i => (lkc (m, s)).getD i undef) rfl src (lkc_one _) (by unfold maxLen; omega) (by omega) hNW ?_
  intro v4 W4 own4 hg4 hv4
  rw [range_getD (lkc (m, s)) (1 * 2) rfl] at own4
  have hg4' := grown_trans' hA hg4
  obtain ⟨A4, cap4, rfl, _, _⟩ := own_sl own4
  have y6 := ((HB.out.1.grown hg4' HB.out.2).cell 2).trans rfl
  have f6 := (HB.out.1.grown hg4' HB.out.2).frozen 2
  refine hK.out _ _ hg4' (fun _ => ?_)
  clear hK K hg4 hv4 own2 src hA
  try simp only [Act.put, List.getElem_toArray, List.getElem_cons_zero, List.getElem_cons_succ, List.setIfInBounds_toArray, List.set_cons_zero, List.set_cons_succ]
  refine takeG0 (i := 14) (v := .pointer (some ⟨bb, 0, none⟩)) rfl (by kernel_rfl) (by kernel_rfl) (by kernel_rfl) (by kernel_rfl) (fun _ _ _ h => h) (Or.inl ⟨by rfl, fun W hW => by go_simp⟩) hg4' ?_
  simp only [Act.put, List.getElem_toArray, List.getElem_cons_zero, List.getElem_cons_succ, List.setIfInBounds_toArray, List.set_cons_zero, List.set_cons_succ]
  refine takeG0 (i := 15) (v := .pointer (some ⟨bb, 2, none⟩)) rfl (by kernel_rfl) (by kernel_rfl) (by kernel_rfl) (by kernel_rfl) (fun _ _ _ h => h) (Or.inl ⟨by rfl, fun W hW => by go_simp⟩) hg4' ?_
  simp only [Act.put, List.getElem_toArray, List.getElem_cons_zero, List.getElem_cons_succ, List.setIfInBounds_toArray, List.set_cons_zero, List.set_cons_succ]
  refine lastG (by kernel_rfl) rfl (by kernel_rfl) (fun K hK => ?_)
  go_simp
  refine hK.out _ _ ?_
  clear hK K
  have HE := Lib.hid (HE0.out _ _ hg4' own4)
  clear own4 hg4' y6 f6
  generalize W4.setCell ⟨bb, 2, none⟩ _ = W5 at HE ⊢
  have HC := Lib.hid (HI.out W5 HE.out.1)
  go_wp2_with fail
  have hc := HC.out
  with_reducible refine hc.mono ?_
  rintro e W6 ⟨⟨u, rfl⟩, hB6, hb6⟩
  go_wp2
  go_end0
  exact ⟨⟨_, rfl⟩, hB6, HE.out.2.trans hb6⟩
end Go.Proofs.YtmhfpjnkjlhbpaaGreatDoor
