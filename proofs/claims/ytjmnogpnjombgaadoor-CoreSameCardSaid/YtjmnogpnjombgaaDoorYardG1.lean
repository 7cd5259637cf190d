/- law08's Yard: flush. law08's Yard: flush as the port has it. law08's Yard is a port. law08's Yard: its port is made. -/
import Derived.Test.YtjmnogpnjombgaaDoorYardE1
import Derived.Test.YtjmnogpnjombgaaDoorYardW
namespace Go.Proofs.YtjmnogpnjombgaaDoor
open Go.ChangeShapes Go.WideShapes Go.ChangeAt Go.RowKit Go.Deep
set_option linter.unusedVariables false
set_option maxRecDepth 100000
set_option linter.unusedSimpArgs false
theorem Moves.after {σ : Type} {Inv : σ → (Nat → Prop) → World → Prop} {s' : σ} {own own1 : Nat → Prop} {W W1 W2 : World} (h2 : ∀ j, own1 j → own j ∨ W.heap.size ≤ j) (h3 : KeepOut own W W1) (k : Moves Inv s' own1 W1 W2) : Moves Inv s' own W W2 := by
  obtain ⟨own2, k1, k2, k3⟩ := k
  refine ⟨own2, k1, fun j hj => ?_, h3.trans k3 h2⟩
  rcases k2 j hj with h | h
  · exact h2 j h
  · exact .inr (Nat.le_trans h3.size h)

/-- What a flush does. -/
def yflush (s : Yst) : Yst := match s.buf with
  | [] => s
  | x :: l => { s with buf := l, mem := s.mem.set x.1.toNat x.2, evs := s.evs ++ [⟨3, 0, 0, x.1, x.2, 0, 0, false⟩] }

set_option maxHeartbeats 2000000 in
theorem yflush_nil (B : YB) (s : Yst) (own : Nat → Prop) (W : World) (h : YInv B s own W) (hs : s.buf = []) :
    Calls Tryd.prog 108 #[.pointer (some ⟨B.yb, 0, none⟩), .int .i64 0] W fun e W' => (∃ u, e = .returned u) ∧ W' = W := by
  obtain ⟨arr, cur, A, cap, hwb, hyb, ha2, hbb, hc0, hsl, hbl⟩ := h.bufrow
  have y2 := (hyb.cell 2).trans ha2
  have b0 := (hbb.cell 0).trans hc0
  rw [hs] at b0
  have hbl0 : (0 : Int) < (B.bl : Int) := by omega
  have b0' : W.cell? ⟨B.bb, 0, none⟩ = some (.slice A 0 cap) := b0
  clear h hwb hyb ha2 hbb hc0 hsl b0
  go_enter Tryd.func108, Tryd.ntmps108
  go_wp2
  refine bodyPost_ret (results_none rfl _ _ _) rfl ?_
  exact ⟨⟨_, rfl⟩, rfl⟩

set_option maxHeartbeats 4000000 in
theorem yflush_cons (B : YB) (s : Yst) (own : Nat → Prop) (W : World) (h : YInv B s own W) (xa xv : Int) (l : List (Int × Int)) (hs : s.buf = (xa, xv) :: l) (hxa : 0 ≤ xa) (hxn : xa < (B.n : Int)) (hn : B.n ≤ 1000000) (hl : l.length ≤ 1000000) (he : s.evs.length + 1 ≤ 1000000) (hb : B.base ≤ W.heap.size) :
    Calls Tryd.prog 108 #[.pointer (some ⟨B.yb, 0, none⟩), .int .i64 0] W fun e W' => (∃ u, e = .returned u) ∧ Moves (YInv B) { s with buf := l, mem := s.mem.set xa.toNat xv, evs := s.evs ++ [⟨3, 0, 0, xa, xv, 0, 0, false⟩] } own W W' := by
  obtain ⟨i, rfl⟩ : ∃ i : Nat, xa = (i : Int) := ⟨xa.toNat, by omega⟩
  have hin : i < B.n := by omega
  obtain ⟨arr, cur, A, cap, hwb, hyb, ha2, hbb, hc0, hsl, hbl⟩ := h.bufrow
  obtain ⟨m, hm⟩ : ∃ m, l.length = m := ⟨_, rfl⟩
  have hbm : s.buf.length = m + 1 := by rw [hs, List.length_cons, hm]
  rw [hbm] at hc0 hsl
  have hcap : m + 1 ≤ cap := by
    obtain ⟨bv, sv, ev, cur', h1, ho, h3, h4, h5, h6, b1, b2, b3, b4, b5, c0, hl, hn, hb', hm', hs', he'⟩ := h
    obtain ⟨A', cap', e1, hc', _⟩ := own_cap hb'
    have : cur' = cur := by
      have := b5.symm.trans hbb
      injection this with this
      injection this with this _ _
    subst this
    rw [hc0] at c0
    have := Option.some.inj c0
    rw [e1] at this
    injection this with _ _ e3
    omega
  obtain ⟨g, off, rfl, hgl, hcc⟩ := hsl (by omega)
  have hoff : off = 0 := by
    obtain ⟨bv, sv, ev, cur', h1, ho, h3, h4, h5, h6, b1, b2, b3, b4, b5, c0, hl, hn, hb', hm', hs', he'⟩ := h
    have : cur' = cur := by
      have := b5.symm.trans hbb
      injection this with this
      injection this with this _ _
    subst this
    rw [hc0] at c0
    obtain rfl := Option.some.inj c0
    rcases hb'.2 with ⟨_, e0⟩ | ⟨g', cap', cur'', e, _⟩
    · omega
    · injection e with e _
      injection e with e
      injection e
  subst hoff
  have x0 : W.cell? ⟨g, 0, none⟩ = some (.int .i64 (i : Int)) := by
    have := hcc 0 (by omega)
    rw [hs] at this
    exact this
  have x1 : W.cell? ⟨g, 1, none⟩ = some (.int .u32 xv) := by
    have := hcc 1 (by omega)
    rw [hs] at this
    exact this
  have hsl2 : Sl W (some ⟨g, 2, none⟩) (m * 2) (fun i => (l.flatMap entc).getD i undef) := fun hp => ⟨g, 2, rfl, hgl, fun j hj => by
    have := hcc (2 + j) (by omega)
    rw [Nat.zero_add] at this
    rw [this, hs, List.flatMap_cons]
    simp only [List.getD_eq_getElem?_getD]
    rw [List.getElem?_append_right (by simp [entc])]
    simp [entc]⟩
  obtain ⟨A2, hA2⟩ : ∃ A2, (if cap = 1 then some (⟨g, 0, none⟩ : Addr) else some ⟨g, 2, none⟩) = A2 := ⟨_, rfl⟩
  have hsl2 : Sl W A2 (m * 2) (fun i => (l.flatMap entc).getD i undef) := fun hp => by
    rw [if_neg (by omega)] at hA2
    subst hA2
    exact hsl2 hp
  have HA2 := Lib.hid hA2
  clear hA2
  have y2 := (hyb.cell 2).trans ha2
  have b0 : W.cell? ⟨B.bb, 0, none⟩ = some (.slice (some ⟨g, 0, none⟩) (m + 1) cap) := (hbb.cell 0).trans hc0
  have hbl0 : (0 : Int) < (B.bl : Int) := by omega
  have hi0 : (0 : Int) ≤ (i : Int) := by omega
  have hi1 : (i : Int) < (B.n : Int) := by omega
  have hm1 : (0 : Int) < ((m + 1 : Nat) : Int) := by omega
  have hm3 : (((m + 1 : Nat) : Int) == 0) = false := by rw [beq_eq_false_iff_ne]; omega
  obtain ⟨i0, hi, hy0, hy1, hy2⟩ := info_parts ent_info3
  obtain ⟨j0, ji, jy0, jy1, jy2⟩ := info_parts evt_info3
  have hlt0 : ∀ j, own j → j < W.heap.size := fun j hj => by obtain ⟨_, _, _, _, hh, _⟩ := h; exact (hh j hj).2
  have hal := (Below.refl W.heap.size W).alloc (Nat.le_refl _) (.cells #[.int .i64 (i : Int), .int .u32 xv] 96)
  have h2 := YInv.keep _ _ _ _ _ h ((Stay.refl own W).alloc hlt0 (.cells #[.int .i64 (i : Int), .int .u32 xv] 96)).drew
  have HK0 := Lib.hid ((KeepOut.refl own W).alloc (.cells #[.int .i64 (i : Int), .int .u32 xv] 96)).drew
  have hX := (Blk.new W 96 #[.int .i64 (i : Int), .int .u32 xv]).drew
  have HF := Lib.hid (entcs_one l)
  have HL := Lib.hid (range_getD (l.flatMap entc) (l.length * 2) (flat_len entc 2 (fun _ => rfl) l))
  rw [hm] at hl HF HL
  have HC := Lib.hid (And.intro (Blk.below hwb hal hwb.lt).drew (And.intro (Blk.below hyb hal hyb.lt).drew (And.intro ha2 (And.intro (Blk.below hbb hal hbb.lt).drew hc0))))
  have hsl3 := hsl2.below (Nat.le_refl _) hal
  have HS := Lib.hid (fun W' (hW : Below (W.alloc (.cells #[.int .i64 (i : Int), .int .u32 xv] 96)).drew.heap.size (W.alloc (.cells #[.int .i64 (i : Int), .int .u32 xv] 96)).drew W') => (show Sl (W.alloc (.cells #[.int .i64 (i : Int), .int .u32 xv] 96)).drew A2 (m * 2) (fun i => (l.flatMap entc).getD i undef) from hsl3).below (Nat.le_refl _) hW)
  have hz2 : (W.alloc (.cells #[.int .i64 (i : Int), .int .u32 xv] 96)).drew.heap.size = W.heap.size + 1 := by show (W.alloc _).heap.size = _; simp
  have HE0 := Lib.hid (fun W4 v4 h3 h4 => YInv.setBuf (W4 := W4) (v4 := v4) (l := l) h2 h3 (by rw [hm]; exact own_base h4 (Nat.le_trans hb hal.size)) (fun g hg => own_ge h4 g hg))
  have HB := Lib.hid (And.intro hlt0 (And.intro hb (And.intro hX hz2)))
  have HHE := Lib.hid he
  clear h h2 hwb hyb ha2 hbb hc0 hsl hcc hsl2 hsl3 hal hs hm hbm hX hb hlt0 hz2 he
  obtain ⟨xb, hxb⟩ : ∃ xb, W.heap.size = xb := ⟨_, rfl⟩
  have HXB := Lib.hid hxb
  go_enter Tryd.func108, Tryd.ntmps108
  go_wp2
  rw [hxb] at HB
  try rw [hxb]
  clear hxb
  refine startG (fun W' => Below (W.alloc (.cells #[.int .i64 (i : Int), .int .u32 xv] 96)).drew.heap.size (W.alloc (.cells #[.int .i64 (i : Int), .int .u32 xv] 96)).drew W') 16 (by kernel_rfl) ?_
  have hH : Below (W.alloc (.cells #[.int .i64 (i : Int), .int .u32 xv] 96)).drew.heap.size (W.alloc (.cells #[.int .i64 (i : Int), .int .u32 xv] 96)).drew (W.alloc (.cells #[.int .i64 (i : Int), .int .u32 xv] 96)).drew := Below.refl _ _
  generalize (W.alloc (.cells #[.int .i64 (i : Int), .int .u32 xv] 96)).drew = W2 at HK0 HC HS HE0 HB hH ⊢
  clear x0 x1 y2 b0
  refine takeG0 (i := 0) (v := .pointer (some ⟨B.yb, 0, none⟩)) rfl (by kernel_rfl) (by kernel_rfl) (by kernel_rfl) (by kernel_rfl) (fun _ _ _ h => h) (Or.inl ⟨by rfl, fun W hW => by go_simp⟩) hH ?_
  simp only [Act.put, List.getElem_toArray, List.getElem_cons_zero, List.getElem_cons_succ, List.setIfInBounds_toArray, List.set_cons_zero, List.set_cons_succ]
  refine takeG0 (i := 1) (v := .pointer (some ⟨B.yb, 0, none⟩)) rfl (by kernel_rfl) (by kernel_rfl) (by kernel_rfl) (by kernel_rfl) (fun _ _ _ h => h) (Or.inl ⟨by rfl, fun W hW => by go_simp⟩) hH ?_
  simp only [Act.put, List.getElem_toArray, List.getElem_cons_zero, List.getElem_cons_succ, List.setIfInBounds_toArray, List.set_cons_zero, List.set_cons_succ]
  refine takeG0 (i := 2) (v := .pointer (some ⟨B.yb, 2, none⟩)) rfl (by kernel_rfl) (by kernel_rfl) (by kernel_rfl) (by kernel_rfl) (fun _ _ _ h => h) (Or.inl ⟨by rfl, fun W hW => by go_simp⟩) hH ?_
  simp only [Act.put, List.getElem_toArray, List.getElem_cons_zero, List.getElem_cons_succ, List.setIfInBounds_toArray, List.set_cons_zero, List.set_cons_succ]
  refine takeG (i := 3) (v := .slice (some ⟨B.bb, 0, none⟩) B.bl B.bcap) rfl (by kernel_rfl) (by kernel_rfl) (by kernel_rfl) (by kernel_rfl) (fun _ _ _ h => h) (Or.inl ⟨by rfl, fun W hW => by have q0 := ((HC.out.2.1.below hW HC.out.2.1.lt).cell 2).trans HC.out.2.2.1; go_simp⟩) hH ?_
  simp only [Act.put, List.getElem_toArray, List.getElem_cons_zero, List.getElem_cons_succ, List.setIfInBounds_toArray, List.set_cons_zero, List.set_cons_succ]
  refine takeG0 (i := 4) (v := .int .i64 0) rfl (by kernel_rfl) (by kernel_rfl) (by kernel_rfl) (by kernel_rfl) (fun _ _ _ h => h) (Or.inl ⟨by rfl, fun W hW => by go_simp⟩) hH ?_
  simp only [Act.put, List.getElem_toArray, List.getElem_cons_zero, List.getElem_cons_succ, List.setIfInBounds_toArray, List.set_cons_zero, List.set_cons_succ]
  refine takeG0 (i := 6) (v := .pointer (some ⟨B.yb, 0, none⟩)) rfl (by kernel_rfl) (by kernel_rfl) (by kernel_rfl) (by kernel_rfl) (fun _ _ _ h => h) (Or.inl ⟨by rfl, fun W hW => by go_simp⟩) hH ?_
  simp only [Act.put, List.getElem_toArray, List.getElem_cons_zero, List.getElem_cons_succ, List.setIfInBounds_toArray, List.set_cons_zero, List.set_cons_succ]
  refine takeG0 (i := 7) (v := .pointer (some ⟨B.yb, 0, none⟩)) rfl (by kernel_rfl) (by kernel_rfl) (by kernel_rfl) (by kernel_rfl) (fun _ _ _ h => h) (Or.inl ⟨by rfl, fun W hW => by go_simp⟩) hH ?_
  simp only [Act.put, List.getElem_toArray, List.getElem_cons_zero, List.getElem_cons_succ, List.setIfInBounds_toArray, List.set_cons_zero, List.set_cons_succ]
  refine takeG0 (i := 8) (v := .pointer (some ⟨B.yb, 2, none⟩)) rfl (by kernel_rfl) (by kernel_rfl) (by kernel_rfl) (by kernel_rfl) (fun _ _ _ h => h) (Or.inl ⟨by rfl, fun W hW => by go_simp⟩) hH ?_
  simp only [Act.put, List.getElem_toArray, List.getElem_cons_zero, List.getElem_cons_succ, List.setIfInBounds_toArray, List.set_cons_zero, List.set_cons_succ]
  refine takeG (i := 9) (v := .slice (some ⟨B.bb, 0, none⟩) B.bl B.bcap) rfl (by kernel_rfl) (by kernel_rfl) (by kernel_rfl) (by kernel_rfl) (fun _ _ _ h => h) (Or.inl ⟨by rfl, fun W hW => by have q0 := ((HC.out.2.1.below hW HC.out.2.1.lt).cell 2).trans HC.out.2.2.1; go_simp⟩) hH ?_
  simp only [Act.put, List.getElem_toArray, List.getElem_cons_zero, List.getElem_cons_succ, List.setIfInBounds_toArray, List.set_cons_zero, List.set_cons_succ]
  refine takeG0 (i := 10) (v := .int .i64 0) rfl (by kernel_rfl) (by kernel_rfl) (by kernel_rfl) (by kernel_rfl) (fun _ _ _ h => h) (Or.inl ⟨by rfl, fun W hW => by go_simp⟩) hH ?_
  simp only [Act.put, List.getElem_toArray, List.getElem_cons_zero, List.getElem_cons_succ, List.setIfInBounds_toArray, List.set_cons_zero, List.set_cons_succ]
  refine takeG0 (i := 11) (v := .pointer (some ⟨B.bb, 0, none⟩)) rfl (by kernel_rfl) (by kernel_rfl) (by kernel_rfl) (by kernel_rfl) (fun _ _ _ h => h) (Or.inl ⟨by rfl, fun W hW => by go_simp⟩) hH ?_
  simp only [Act.put, List.getElem_toArray, List.getElem_cons_zero, List.getElem_cons_succ, List.setIfInBounds_toArray, List.set_cons_zero, List.set_cons_succ]
  refine takeG (i := 12) (v := .slice (some ⟨g, 0, none⟩) (m + 1) cap) rfl (by kernel_rfl) (by kernel_rfl) (by kernel_rfl) (by kernel_rfl) (fun _ _ _ h => h) (Or.inl ⟨by rfl, fun W hW => by have q0 := ((HC.out.2.2.2.1.below hW HC.out.2.2.2.1.lt).cell 0).trans HC.out.2.2.2.2; go_simp⟩) hH ?_
  simp only [Act.put, List.getElem_toArray, List.getElem_cons_zero, List.getElem_cons_succ, List.setIfInBounds_toArray, List.set_cons_zero, List.set_cons_succ]
  refine takeG0 (i := 13) (v := .slice A2 m (cap - 1)) rfl (by kernel_rfl) (by kernel_rfl) (by kernel_rfl) (by kernel_rfl) (fun _ _ _ h => h) (Or.inl ⟨by rfl, fun W hW => by have hA2 := HA2.out; have hle1 : (1 : Int) ≤ (m : Int) + 1 := (by omega); go_simp⟩) hH ?_
  simp only [Act.put, List.getElem_toArray, List.getElem_cons_zero, List.getElem_cons_succ, List.setIfInBounds_toArray, List.set_cons_zero, List.set_cons_succ]
  refine onlyG (i := 5) (by kernel_rfl) rfl (fun K hK => ?_)
  go_simp
  have own0 := yown_none W2 96 2
  have hA := hH.alloc hH.size (Obj.cells #[] 96)
  refine hK.out _ _ hA (fun _ => ?_)
  clear hK K
  try simp only [Act.put, List.getElem_toArray, List.getElem_cons_zero, List.getElem_cons_succ, List.setIfInBounds_toArray, List.set_cons_zero, List.set_cons_succ]
  refine onlyG (i := 14) (by kernel_rfl) rfl (fun K hK => ?_)
  rw [if_pos (by rfl)]
  refine wp_append_sl _ (.tmp 28) (.tmp 36) 27 rfl W2.heap.size 96 i0 _ 2 16 Tryd.underlying27 hi hy0 hy1 hy2 rfl (by omega) _ 0 _ rfl own0 A2 m (cap - 1) (fun i => (l.flatMap entc).getD i undef) rfl (HS.out _ hA) HF.out (by unfold maxLen; omega) (by omega) hA.size ?_
  intro v4 W4 own4 hg4 _
  rw [HL.out, List.nil_append, Nat.zero_add] at own4
  have hA4 := below_own hA own0 hg4 (Nat.le_refl _) (Nat.le_refl _)
  have y6 := ((HC.out.2.2.2.1.below hA4 HC.out.2.2.2.1.lt).cell 0).trans HC.out.2.2.2.2
  have f6 := (HC.out.2.2.2.1.below hA4 HC.out.2.2.2.1.lt).frozen 0
  have HE := Lib.hid (HE0.out W4 v4 hA4 own4)
  obtain ⟨A9, c9, rfl, _, _⟩ := own_sl own4
  refine hK.out _ _ hA4 (fun _ => ?_)
  clear hK K hg4 own4 own0 hA
  try simp only [Act.put, List.getElem_toArray, List.getElem_cons_zero, List.getElem_cons_succ, List.setIfInBounds_toArray, List.set_cons_zero, List.set_cons_succ]
  refine takeG0 (i := 15) (v := .pointer (some ⟨B.bb, 0, none⟩)) rfl (by kernel_rfl) (by kernel_rfl) (by kernel_rfl) (by kernel_rfl) (fun _ _ _ h => h) (Or.inl ⟨by rfl, fun W hW => by go_simp⟩) hA4 ?_
  simp only [Act.put, List.getElem_toArray, List.getElem_cons_zero, List.getElem_cons_succ, List.setIfInBounds_toArray, List.set_cons_zero, List.set_cons_succ]
  refine lastG (by kernel_rfl) rfl (by kernel_rfl) (fun K hK => ?_)
  go_simp
  refine hK.out _ _ ?_
  clear hK K y6 f6 hA4
  generalize W4.setCell ⟨B.bb, 0, none⟩ (.slice A9 m c9) = W5 at HE ⊢
  obtain ⟨own1, h5, ho5, hk5⟩ := HE.out
  obtain ⟨hlt0, hb, hX, hz2⟩ := HB.out
  have hn0 : ¬ own xb := fun e => Nat.lt_irrefl _ (hlt0 xb e)
  have hX5 := (hk5.blk hX hn0).drew
  have hn1 : ¬ own1 xb := fun e => (ho5 xb e).elim hn0 (fun q => by omega)
  have h6 := YInv.keep _ _ _ _ _ h5 (Stay.refl own1 W5).drew
  have hk6 := (HK0.out.trans hk5 (fun j hj => .inl hj)).drew
  have ho6 : ∀ j, own1 j → own j ∨ W.heap.size ≤ j := fun j hj => (ho5 j hj).imp id (fun q => by have := HXB.out; omega)
  have hb6 : B.base ≤ W5.drew.heap.size := by
    have h1 : W.heap.size ≤ W5.drew.heap.size := hk6.size
    have := HXB.out
    omega
  have HA := Lib.hid (And.intro ho6 (And.intro hk6 (And.intro hn1 (And.intro hX5 hb6))))
  clear HE HE0 HS HC HB hH hlt0 hb hX hz2 hn0 hX5 hn1 hk6 ho6 hk5 ho5 h5 hb6 HK0
  go_wp2
  refine startG (fun W' => W' = W5.drew) 9 (by kernel_rfl) ?_
  have hW6 : W5.drew = W5.drew := rfl
  generalize W5.drew = W6 at h6 HA hW6 ⊢
  obtain ⟨_, _, y3, _⟩ := h6.abx
  obtain ⟨gm, mcap, hmv, hmc, hmcm, m0, mf, hY, hog, hne⟩ := h6.setMem hin xv
  rw [hmv] at y3
  have x0 := HA.out.2.2.2.1.cell 0
  have x1 := HA.out.2.2.2.1.cell 1
  simp only [List.getElem?_toArray, List.getElem?_cons_zero, List.getElem?_cons_succ] at x0 x1
  have hmc' : B.n ≤ mcap := hmc
  have hgx : gm ≠ xb := fun e => HA.out.2.2.1 (e ▸ hog)
  have HY := Lib.hid (And.intro hY (And.intro hog hgx))
  dsimp only at m0
  generalize s.mem.getD i 0 = old at m0
  clear h6 hmv hY hog hne hgx hmc hmcm
  refine takeG0 (i := 0) (v := .pointer (some ⟨B.yb, 0, none⟩)) rfl (by kernel_rfl) (by kernel_rfl) (by kernel_rfl) (by kernel_rfl) (fun _ _ _ h => h) (Or.inl ⟨by rfl, fun W hW => by go_simp⟩) hW6 ?_
  simp only [Act.put, List.getElem_toArray, List.getElem_cons_zero, List.getElem_cons_succ, List.setIfInBounds_toArray, List.set_cons_zero, List.set_cons_succ]
  refine takeG0 (i := 1) (v := .pointer (some ⟨B.yb, 0, none⟩)) rfl (by kernel_rfl) (by kernel_rfl) (by kernel_rfl) (by kernel_rfl) (fun _ _ _ h => h) (Or.inl ⟨by rfl, fun W hW => by go_simp⟩) hW6 ?_
  simp only [Act.put, List.getElem_toArray, List.getElem_cons_zero, List.getElem_cons_succ, List.setIfInBounds_toArray, List.set_cons_zero, List.set_cons_succ]
  refine takeG0 (i := 2) (v := .pointer (some ⟨B.yb, 3, none⟩)) rfl (by kernel_rfl) (by kernel_rfl) (by kernel_rfl) (by kernel_rfl) (fun _ _ _ h => h) (Or.inl ⟨by rfl, fun W hW => by go_simp⟩) hW6 ?_
  simp only [Act.put, List.getElem_toArray, List.getElem_cons_zero, List.getElem_cons_succ, List.setIfInBounds_toArray, List.set_cons_zero, List.set_cons_succ]
  refine takeG (i := 3) (v := .slice (some ⟨gm, 0, none⟩) B.n mcap) rfl (by kernel_rfl) (by kernel_rfl) (by kernel_rfl) (by kernel_rfl) (fun _ _ _ h => h) (Or.inl ⟨by rfl, fun W hW => by subst hW; go_simp⟩) hW6 ?_
  simp only [Act.put, List.getElem_toArray, List.getElem_cons_zero, List.getElem_cons_succ, List.setIfInBounds_toArray, List.set_cons_zero, List.set_cons_succ]
  refine takeG0 (i := 4) (v := .pointer (some ⟨xb, 0, none⟩)) rfl (by kernel_rfl) (by kernel_rfl) (by kernel_rfl) (by kernel_rfl) (fun _ _ _ h => h) (Or.inl ⟨by rfl, fun W hW => by go_simp⟩) hW6 ?_
  simp only [Act.put, List.getElem_toArray, List.getElem_cons_zero, List.getElem_cons_succ, List.setIfInBounds_toArray, List.set_cons_zero, List.set_cons_succ]
  refine takeG (i := 5) (v := .int .i64 (i : Int)) rfl (by kernel_rfl) (by kernel_rfl) (by kernel_rfl) (by kernel_rfl) (fun _ _ _ h => h) (Or.inl ⟨by rfl, fun W hW => by subst hW; go_simp⟩) hW6 ?_
  simp only [Act.put, List.getElem_toArray, List.getElem_cons_zero, List.getElem_cons_succ, List.setIfInBounds_toArray, List.set_cons_zero, List.set_cons_succ]
  refine takeG0 (i := 6) (v := .pointer (some ⟨xb, 1, none⟩)) rfl (by kernel_rfl) (by kernel_rfl) (by kernel_rfl) (by kernel_rfl) (fun _ _ _ h => h) (Or.inl ⟨by rfl, fun W hW => by go_simp⟩) hW6 ?_
  simp only [Act.put, List.getElem_toArray, List.getElem_cons_zero, List.getElem_cons_succ, List.setIfInBounds_toArray, List.set_cons_zero, List.set_cons_succ]
  refine takeG (i := 7) (v := .int .u32 xv) rfl (by kernel_rfl) (by kernel_rfl) (by kernel_rfl) (by kernel_rfl) (fun _ _ _ h => h) (Or.inl ⟨by rfl, fun W hW => by subst hW; go_simp⟩) hW6 ?_
  simp only [Act.put, List.getElem_toArray, List.getElem_cons_zero, List.getElem_cons_succ, List.setIfInBounds_toArray, List.set_cons_zero, List.set_cons_succ]
  refine takeG0 (i := 8) (v := .pointer (some ⟨gm, i, none⟩)) rfl (by kernel_rfl) (by kernel_rfl) (by kernel_rfl) (by kernel_rfl) (fun _ _ _ h => h) (Or.inl ⟨by rfl, fun W hW => by go_simp⟩) hW6 ?_
  simp only [Act.put, List.getElem_toArray, List.getElem_cons_zero, List.getElem_cons_succ, List.setIfInBounds_toArray, List.set_cons_zero, List.set_cons_succ]
  refine lastG (by kernel_rfl) rfl (by kernel_rfl) (fun K hK => ?_)
  go_simp
  refine hK.out _ _ ?_
  clear hK K
  obtain ⟨h7, hog, hgx⟩ := HY.out
  have hg7 : W6.grownBy (W6.setCell ⟨gm, i, none⟩ (.int .u32 xv)) (some gm) := set_only _
  have hX7 := (HA.out.2.2.2.1.far (p := ⟨gm, i, none⟩) (Ne.symm hgx) (.int .u32 xv)).drew
  have hk7 := HA.out.2.1.trans (ykeep_grown hg7 hog) HA.out.1
  have hb7 : B.base ≤ (W6.setCell ⟨gm, i, none⟩ (.int .u32 xv)).heap.size := Nat.le_trans HA.out.2.2.2.2 hg7.size
  have ho7 := HA.out.1
  generalize W6.setCell ⟨gm, i, none⟩ (.int .u32 xv) = W7 at h7 hX7 hk7 hb7 ⊢
  obtain ⟨arr, A, cap', hwb, hyb, ha6, hr, hnw, hny, hlb⟩ := h7.evs
  dsimp only at ha6 hr hnw hny hlb
  obtain ⟨n, hnn⟩ : ∃ n, s.evs.length = n := ⟨_, rfl⟩
  have hr2 : W7.drew.ownsRow B.base 86 8 (.slice A s.evs.length cap') s.evs.length (s.evs.flatMap Evt.cells) := hr
  have HX := Lib.hid (And.intro hX7 (row_ne hX7 hr2 (by decide)))
  have HG := Lib.hid (show W7.grownBy W7.drew (Value.slice A s.evs.length cap').ownBlock from ⟨rfl, rfl, rfl, Nat.le_refl _, fun i hi _ => rfl⟩)
  have HR := Lib.hid hr2
  have HC := Lib.hid (And.intro hyb.drew (And.intro ha6 hny))
  have hb2 : B.base ≤ W7.drew.heap.size := hb7
  have HC6 := (hyb.cell 6).trans ha6
  have he := HHE.out
  rw [hnn] at he HX HG HR HC HC6
  have HM := Lib.hid (And.intro ho7 hk7)
  have hE := fun W4 v4 (h1 : W7.grownBy W4 (Value.slice A n cap').ownBlock) (h2 : W4.ownsRow B.base 86 8 v4 (n + 1) (s.evs.flatMap Evt.cells ++ (Evt.mk 3 0 0 (i : Int) xv 0 0 false).cells)) h3 => Moves.after HM.out.1 HM.out.2 (YInv.grow6 (x := Evt.mk 3 0 0 (i : Int) xv 0 0 false) h7 HC6 h1 (by dsimp only; rw [hnn]; exact h2) h3)
  have HE1 := Lib.hid hE
  clear h7 hwb hyb ha6 hr hnw hny hlb hnn hE HC6 hX7 hk7 hb7 ho7 hr2 hog hgx hg7 HA HY y3 x0 x1 m0 mf hW6
  go_wp2
  refine startG (fun W' => W7.drew.grownBy W' (Value.slice A n cap').ownBlock) 15 (by kernel_rfl) ?_
  generalize W7.drew = W2' at HX HG HR HC hb2 ⊢
  have hg0 : W2'.grownBy W2' (Value.slice A n cap').ownBlock := World.grownBy.refl _ _
  refine takeG0 (i := 0) (v := .pointer (some ⟨B.yb, 0, none⟩)) rfl (by kernel_rfl) (by kernel_rfl) (by kernel_rfl) (by kernel_rfl) (fun _ _ _ h => h) (Or.inl ⟨by rfl, fun W hW => by go_simp⟩) hg0 ?_
  simp only [Act.put, List.getElem_toArray, List.getElem_cons_zero, List.getElem_cons_succ, List.setIfInBounds_toArray, List.set_cons_zero, List.set_cons_succ]
  refine takeG0 (i := 1) (v := .pointer (some ⟨B.yb, 0, none⟩)) rfl (by kernel_rfl) (by kernel_rfl) (by kernel_rfl) (by kernel_rfl) (fun _ _ _ h => h) (Or.inl ⟨by rfl, fun W hW => by go_simp⟩) hg0 ?_
  simp only [Act.put, List.getElem_toArray, List.getElem_cons_zero, List.getElem_cons_succ, List.setIfInBounds_toArray, List.set_cons_zero, List.set_cons_succ]
  refine takeG0 (i := 2) (v := .pointer (some ⟨B.yb, 0, none⟩)) rfl (by kernel_rfl) (by kernel_rfl) (by kernel_rfl) (by kernel_rfl) (fun _ _ _ h => h) (Or.inl ⟨by rfl, fun W hW => by go_simp⟩) hg0 ?_
  simp only [Act.put, List.getElem_toArray, List.getElem_cons_zero, List.getElem_cons_succ, List.setIfInBounds_toArray, List.set_cons_zero, List.set_cons_succ]
  refine takeG0 (i := 3) (v := .pointer (some ⟨B.yb, 6, none⟩)) rfl (by kernel_rfl) (by kernel_rfl) (by kernel_rfl) (by kernel_rfl) (fun _ _ _ h => h) (Or.inl ⟨by rfl, fun W hW => by go_simp⟩) hg0 ?_
  simp only [Act.put, List.getElem_toArray, List.getElem_cons_zero, List.getElem_cons_succ, List.setIfInBounds_toArray, List.set_cons_zero, List.set_cons_succ]
  refine takeG (i := 4) (v := .slice A n cap') rfl (by kernel_rfl) (by kernel_rfl) (by kernel_rfl) (by kernel_rfl) (fun _ _ _ h => h) (Or.inl ⟨by rfl, fun W hW => by have q0 := ((HC.out.1.grown hW HC.out.2.2).cell 6).trans HC.out.2.1; go_simp⟩) hg0 ?_
  simp only [Act.put, List.getElem_toArray, List.getElem_cons_zero, List.getElem_cons_succ, List.setIfInBounds_toArray, List.set_cons_zero, List.set_cons_succ]
  refine takeG0 (i := 5) (v := .int .i64 0) rfl (by kernel_rfl) (by kernel_rfl) (by kernel_rfl) (by kernel_rfl) (fun _ _ _ h => h) (Or.inl ⟨by rfl, fun W hW => by go_simp⟩) hg0 ?_
  simp only [Act.put, List.getElem_toArray, List.getElem_cons_zero, List.getElem_cons_succ, List.setIfInBounds_toArray, List.set_cons_zero, List.set_cons_succ]
  refine takeG0 (i := 6) (v := .pointer (some ⟨xb, 0, none⟩)) rfl (by kernel_rfl) (by kernel_rfl) (by kernel_rfl) (by kernel_rfl) (fun _ _ _ h => h) (Or.inl ⟨by rfl, fun W hW => by go_simp⟩) hg0 ?_
  simp only [Act.put, List.getElem_toArray, List.getElem_cons_zero, List.getElem_cons_succ, List.setIfInBounds_toArray, List.set_cons_zero, List.set_cons_succ]
  refine takeG (i := 7) (v := .int .i64 (i : Int)) rfl (by kernel_rfl) (by kernel_rfl) (by kernel_rfl) (by kernel_rfl) (fun _ _ _ h => h) (Or.inl ⟨by rfl, fun W hW => by have q0 := ((HX.out.1.grown hW HX.out.2).cell 0).trans rfl; go_simp⟩) hg0 ?_
  simp only [Act.put, List.getElem_toArray, List.getElem_cons_zero, List.getElem_cons_succ, List.setIfInBounds_toArray, List.set_cons_zero, List.set_cons_succ]
  refine takeG0 (i := 8) (v := .pointer (some ⟨xb, 1, none⟩)) rfl (by kernel_rfl) (by kernel_rfl) (by kernel_rfl) (by kernel_rfl) (fun _ _ _ h => h) (Or.inl ⟨by rfl, fun W hW => by go_simp⟩) hg0 ?_
  simp only [Act.put, List.getElem_toArray, List.getElem_cons_zero, List.getElem_cons_succ, List.setIfInBounds_toArray, List.set_cons_zero, List.set_cons_succ]
  refine takeG (i := 9) (v := .int .u32 xv) rfl (by kernel_rfl) (by kernel_rfl) (by kernel_rfl) (by kernel_rfl) (fun _ _ _ h => h) (Or.inl ⟨by rfl, fun W hW => by have q0 := ((HX.out.1.grown hW HX.out.2).cell 1).trans rfl; go_simp⟩) hg0 ?_
  simp only [Act.put, List.getElem_toArray, List.getElem_cons_zero, List.getElem_cons_succ, List.setIfInBounds_toArray, List.set_cons_zero, List.set_cons_succ]
  refine takeG0 (i := 10) (v := .agg #[.int .i64 3, .int .i64 0, .int .i64 0, .int .i64 (i : Int), .int .u32 xv, .int .u32 0, .int .u32 0, .bool false]) rfl (by kernel_rfl) (by kernel_rfl) (by kernel_rfl) (by kernel_rfl) (fun _ _ _ h => h) (Or.inl ⟨by rfl, fun W hW => by go_simp⟩) hg0 ?_
  simp only [Act.put, List.getElem_toArray, List.getElem_cons_zero, List.getElem_cons_succ, List.setIfInBounds_toArray, List.set_cons_zero, List.set_cons_succ]
  refine onlyG (i := 11) (by kernel_rfl) rfl (fun K hK => ?_)
  go_simp
  have hA : W2'.grownBy (W2'.alloc (.cells #[.int .i64 3, .int .i64 0, .int .i64 0, .int .i64 (i : Int), .int .u32 xv, .int .u32 0, .int .u32 0, .bool false] 86)) (Value.slice A n cap').ownBlock := grown_alloc (World.grownBy.refl _ _) _
  have own2 := own_below HR.out (Nat.le_refl _) ((Below.refl W2'.heap.size W2').alloc (Nat.le_refl _) (.cells #[.int .i64 3, .int .i64 0, .int .i64 0, .int .i64 (i : Int), .int .u32 xv, .int .u32 0, .int .u32 0, .bool false] 86))
  have src := sl_new W2' 86 [.int .i64 3, .int .i64 0, .int .i64 0, .int .i64 (i : Int), .int .u32 xv, .int .u32 0, .int .u32 0, .bool false]
  refine hK.out _ _ hA (fun _ => ?_)
  clear hK K
  try simp only [Act.put, List.getElem_toArray, List.getElem_cons_zero, List.getElem_cons_succ, List.setIfInBounds_toArray, List.set_cons_zero, List.set_cons_succ]
  refine onlyG (i := 12) (by kernel_rfl) rfl (fun K hK => ?_)
  rw [if_pos (by rfl)]
  refine wp_append_sl _ (.tmp 52) (.tmp 59) 38 rfl B.base 86 j0 _ 8 48 Tryd.underlying38 ji jy0 jy1 jy2 rfl (by omega) _ n _ rfl own2 _ 1 _ (fun jj => [.int .i64 3, .int .i64 0, .int .i64 0, .int .i64 (i : Int), .int .u32 xv, .int .u32 0, .int .u32 0, .bool false].getD jj undef) rfl src (by exact evt_one ⟨3, 0, 0, (i : Int), xv, 0, 0, false⟩) (by unfold maxLen; omega) (by omega) (by simp; omega) ?_
  intro v4 W4 own4 hg4 hv4
  rw [range_getD [.int .i64 3, .int .i64 0, .int .i64 0, .int .i64 (i : Int), .int .u32 xv, .int .u32 0, .int .u32 0, .bool false] (1 * 8) rfl] at own4
  have hg4' := grown_trans' hA hg4
  have hv5 : v4.ownBlock = (Value.slice A n cap').ownBlock ∨ ∃ g, v4.ownBlock = some g ∧ W7.heap.size ≤ g := hv4.imp id (fun e => ⟨_, e, Nat.le_trans HG.out.size hA.size⟩)
  obtain ⟨A4, cap4, rfl, _, _⟩ := own_sl own4
  have y6 := ((HC.out.1.grown hg4' HC.out.2.2).cell 6).trans HC.out.2.1
  have f6 := (HC.out.1.grown hg4' HC.out.2.2).frozen 6
  refine hK.out _ _ hg4' (fun _ => ?_)
  clear hK K hg4 hv4 own2 src hA
  try simp only [Act.put, List.getElem_toArray, List.getElem_cons_zero, List.getElem_cons_succ, List.setIfInBounds_toArray, List.set_cons_zero, List.set_cons_succ]
  refine takeG0 (i := 13) (v := .pointer (some ⟨B.yb, 0, none⟩)) rfl (by kernel_rfl) (by kernel_rfl) (by kernel_rfl) (by kernel_rfl) (fun _ _ _ h => h) (Or.inl ⟨by rfl, fun W hW => by go_simp⟩) hg4' ?_
  simp only [Act.put, List.getElem_toArray, List.getElem_cons_zero, List.getElem_cons_succ, List.setIfInBounds_toArray, List.set_cons_zero, List.set_cons_succ]
  refine takeG0 (i := 14) (v := .pointer (some ⟨B.yb, 6, none⟩)) rfl (by kernel_rfl) (by kernel_rfl) (by kernel_rfl) (by kernel_rfl) (fun _ _ _ h => h) (Or.inl ⟨by rfl, fun W hW => by go_simp⟩) hg4' ?_
  simp only [Act.put, List.getElem_toArray, List.getElem_cons_zero, List.getElem_cons_succ, List.setIfInBounds_toArray, List.set_cons_zero, List.set_cons_succ]
  refine lastG (by kernel_rfl) rfl (by kernel_rfl) (fun K hK => ?_)
  go_simp
  refine hK.out _ _ ?_
  clear hK K
  have HE := Lib.hid (HE1.out _ _ (grown_trans' HG.out hg4') own4 hv5)
  clear own4 hv5 hg4' y6 f6
  go_wp2
  go_end0
  exact ⟨⟨_, rfl⟩, HE.out⟩
end Go.Proofs.YtjmnogpnjombgaaDoor
namespace Go.Proofs.YtjmnogpnjombgaaDoor
open Go.ChangeShapes Go.WideShapes Go.ChangeAt Go.RowKit Go.Deep
set_option linter.unusedVariables false
set_option maxRecDepth 100000
set_option linter.unusedSimpArgs false
theorem Moves.drew {B : YB} {s : Yst} {own : Nat → Prop} {W W' : World} (h : Moves (YInv B) s own W W') : Moves (YInv B) s own W W'.drew := by
  obtain ⟨own1, h1, h2, h3⟩ := h
  exact ⟨own1, h1.keep _ _ _ _ _ (Stay.refl own1 W').drew, h2, h3.drew⟩

theorem YInv.thr {B : YB} {s : Yst} {own : Nat → Prop} {W : World} (h : YInv B s own W) : W.cell? ⟨B.yb, 1, none⟩ = some B.tv := by
  obtain ⟨bv, sv, ev, cur, h1, ho, h3, h4, h5, h6, b1, b2, b3, b4, b5, c0, hl, hn, hb, hm, hs, he⟩ := h
  exact (b1.cell 1).trans rfl

set_option maxHeartbeats 2000000 in
theorem ypick_any (B : YB) (s : Yst) (own : Nat → Prop) (W0 : World) (h0 : YInv B s own W0) (tA : Option Addr) (tl tcap : Nat) (htv : B.tv = .slice tA tl tcap) (htl : 0 < tl) (htl2 : tl ≤ 1000000)
    (hbuf : ∀ e ∈ s.buf, 0 ≤ e.1 ∧ e.1 < (B.n : Int)) (hn : B.n ≤ 1000000) (hl : s.buf.length ≤ 1000000) (he : s.evs.length + 1 ≤ 1000000) (hb : B.base ≤ W0.heap.size) :
    Calls Tryd.prog 63 #[.pointer (some ⟨B.yb, 0, none⟩), .agg #[.int .i64 1, .int .i64 0]] W0 fun e W' => (∃ u, e = .returned u) ∧ Moves (YInv B) (yflush s) own W0 W' := by
  have hlt0 : ∀ j, own j → j < W0.heap.size := fun j hj => by obtain ⟨_, _, _, _, hh, _⟩ := h0; exact (hh j hj).2
  have hal := (Below.refl W0.heap.size W0).alloc (Nat.le_refl _) (.cells #[.int .i64 1, .int .i64 0] 67)
  have h := YInv.keep _ _ _ _ _ h0 ((Stay.refl own W0).alloc hlt0 (.cells #[.int .i64 1, .int .i64 0] 67))
  have hK := (KeepOut.refl own W0).alloc (.cells #[.int .i64 1, .int .i64 0] 67)
  have hX := Blk.new W0 67 #[.int .i64 1, .int .i64 0]
  have hb2 : B.base ≤ (W0.alloc (.cells #[.int .i64 1, .int .i64 0] 67)).heap.size := Nat.le_trans hb hal.size
  have t1 := h.thr
  rw [htv] at t1
  have hF : ∀ q W1, W1 = (W0.alloc (.cells #[.int .i64 1, .int .i64 0] 67)).drewN q → Calls Tryd.prog 108 #[.pointer (some ⟨B.yb, 0, none⟩), .int .i64 0] W1 fun e W' => (∃ u, e = .returned u) ∧ Moves (YInv B) (yflush s) own W0 W' := by
    intro q W1 hW1
    have h := YInv.keep _ _ _ _ _ h ((Stay.refl own _).drewN q)
    have hK := hK.drewN q
    have hb2 : B.base ≤ ((W0.alloc (.cells #[.int .i64 1, .int .i64 0] 67)).drewN q).heap.size := hb2
    rw [← hW1] at h hK hb2
    unfold yflush
    cases hbu : s.buf with
    | nil =>
      refine (yflush_nil B s own W1 h hbu).mono ?_
      rintro e W' ⟨he, rfl⟩
      exact ⟨he, own, h, fun j hj => .inl hj, hK⟩
    | cons x l =>
      obtain ⟨xa, xv⟩ := x
      have hx := hbuf (xa, xv) (by rw [hbu]; simp)
      refine (yflush_cons B s own W1 h xa xv l hbu hx.1 hx.2 hn (by rw [hbu] at hl; simp at hl; omega) he hb2).mono ?_
      rintro e W' ⟨he, hm⟩
      exact ⟨he, Moves.after (fun j hj => .inl hj) hK hm⟩
  have cF := fun q => hF q _ rfl
  have htl0 : ¬ (tl : Int) ≤ 0 := by omega
  have htl1 : (0 : Int) < (tl : Int) := by omega
  have HX := Lib.hid hX
  clear h h0 hlt0 hal hK hF hb hb2 hbuf htv
  go_enter Tryd.func63, Tryd.ntmps63
  go_wp2
  obtain ⟨xb, hxb⟩ : ∃ xb, W0.heap.size = xb := ⟨_, rfl⟩
  rw [hxb] at hX
  try rw [hxb]
  have t1' : (W0.alloc (.cells #[.int .i64 1, .int .i64 0] 67)).cell? ⟨B.yb, 1, none⟩ = some (.slice tA tl tcap) := t1
  have x0 : (W0.alloc (.cells #[.int .i64 1, .int .i64 0] 67)).cell? ⟨xb, 0, none⟩ = some (.int .i64 1) := (hX.cell 0).trans rfl
  have x1 : (W0.alloc (.cells #[.int .i64 1, .int .i64 0] 67)).cell? ⟨xb, 1, none⟩ = some (.int .i64 0) := (hX.cell 1).trans rfl
  clear hxb hX t1
  generalize W0.alloc (.cells #[.int .i64 1, .int .i64 0] 67) = W1 at t1' x0 x1 cF ⊢
  go_quiet (fail)
  go_wp2_with fail
  refine (cF _).mono ?_
  rintro e W2 ⟨⟨u, rfl⟩, hm⟩
  have HM := Lib.hid hm
  clear cF hm t1' x0 x1
  go_wp2
  go_end0
  exact ⟨⟨_, rfl⟩, HM.out⟩

set_option maxHeartbeats 1000000 in
theorem yflushP_any (B : YB) (s : Yst) (own : Nat → Prop) (W0 : World) (h : YInv B s own W0) (tA : Option Addr) (tl tcap : Nat) (htv : B.tv = .slice tA tl tcap) (htl : 0 < tl) (htl2 : tl ≤ 1000000) (hx : s.asks.size + 1 ≤ 1000000)
    (hbuf : ∀ e ∈ s.buf, 0 ≤ e.1 ∧ e.1 < (B.n : Int)) (hn : B.n ≤ 1000000) (hl : s.buf.length ≤ 1000000) (he : s.evs.length + 1 ≤ 1000000) (hb : B.base ≤ W0.heap.size) :
    Calls Tryd.prog 62 #[.pointer (some ⟨B.ab, 0, none⟩), .pointer (some ⟨B.wb, 0, none⟩)] W0 fun e W' => (∃ u, e = .returned u) ∧ Moves (YInv B) (yflush { s with asks := s.asks ++ ⟨#[102]⟩ }) own W0 W' := by
  have hA := yask_any B s own W0 h ⟨#[102]⟩ hx
  obtain ⟨a0, _, _⟩ := h.abx
  have hoy := h.oyb
  clear h hx
  go_enter Tryd.func62, Tryd.ntmps62
  go_wp2_with fail
  refine hA.mono ?_
  rintro e W ⟨⟨u, rfl⟩, h, hg1⟩
  have hP := ypick_any B _ own W h tA tl tcap htv htl htl2 hbuf hn hl he (Nat.le_trans hb hg1.size)
  have HM := Lib.hid (ykeep_grown hg1 hoy)
  obtain ⟨_, w0, _⟩ := h.abx
  clear hA a0 h hg1 hbuf htv
  go_wp2_with fail
  refine hP.mono ?_
  rintro e W2 ⟨⟨u', rfl⟩, hm⟩
  have HF := Lib.hid (Moves.after (fun j hj => .inl hj) HM.out hm)
  clear hP hm w0
  go_wp2
  go_end0
  exact ⟨⟨_, rfl⟩, HF.out⟩
end Go.Proofs.YtjmnogpnjombgaaDoor
namespace Go.Proofs.YtjmnogpnjombgaaDoor
open Go.ChangeShapes Go.WideShapes Go.ChangeAt Go.RowKit Go.Deep
set_option linter.unusedVariables false
set_option maxRecDepth 100000
set_option linter.unusedSimpArgs false

/-- What the Yard's port does. -/
def yOps (B : YB) : Ops Yst where
  size := B.n
  load := fun s a => (seeY s a, { s with asks := s.asks ++ ⟨#[108]⟩ })
  room := fun s => decide (s.buf.length < B.room)
  store := fun s a v => if a < B.n then { s with asks := s.asks ++ ⟨#[115]⟩, buf := s.buf ++ [((a : Int), v)] } else s
  empty := fun s => decide (s.buf.length = 0)
  flush := fun s => yflush { s with asks := s.asks ++ ⟨#[102]⟩ }
  swap := fun s a v => { s with asks := s.asks ++ ⟨#[120]⟩, mem := s.mem.set a v }
  sleep := fun s a => { s with asks := s.asks ++ ⟨#[122]⟩, slp := s.slp ++ [(0, (a : Int))] }
  wake := fun s a v => (((wk (a : Int) v.toNat s.slp).2.length : Int), { s with asks := s.asks ++ ⟨#[119]⟩, slp := (wk (a : Int) v.toNat s.slp).1 })
  remote := fun s => { s with asks := s.asks ++ ⟨#[114]⟩ }
  note := fun s x => { s with evs := s.evs ++ [x] }
def abV (B : YB) : Value := .pointer (some ⟨B.ab, 0, none⟩)
def wbV (B : YB) : Value := .pointer (some ⟨B.wb, 0, none⟩)
/-- Its function values. -/
def yPv (B : YB) : Pv where
  load := ⟨58, #[], #[.pointer (some ⟨B.ab, 0, none⟩), .pointer (some ⟨B.wb, 0, none⟩)]⟩
  room := ⟨59, #[], #[.pointer (some ⟨B.wb, 0, none⟩)]⟩
  store := ⟨60, #[], #[.pointer (some ⟨B.ab, 0, none⟩), .pointer (some ⟨B.wb, 0, none⟩)]⟩
  empty := ⟨61, #[], #[.pointer (some ⟨B.wb, 0, none⟩)]⟩
  flush := ⟨62, #[], #[.pointer (some ⟨B.ab, 0, none⟩), .pointer (some ⟨B.wb, 0, none⟩)]⟩
  swap := ⟨64, #[], #[.pointer (some ⟨B.ab, 0, none⟩), .pointer (some ⟨B.wb, 0, none⟩)]⟩
  sleep := ⟨65, #[], #[.pointer (some ⟨B.ab, 0, none⟩), .pointer (some ⟨B.wb, 0, none⟩)]⟩
  wake := ⟨66, #[], #[.pointer (some ⟨B.ab, 0, none⟩), .pointer (some ⟨B.wb, 0, none⟩)]⟩
  remote := ⟨68, #[], #[.pointer (some ⟨B.ab, 0, none⟩)]⟩
  note := ⟨69, #[], #[.pointer (some ⟨B.wb, 0, none⟩)]⟩
/-- There is room for so much more. -/
def yCan (B : YB) (n : Nat) (s : Yst) : Prop :=
  s.asks.size + n ≤ 10000 ∧ s.evs.length + n ≤ 10000 ∧ s.slp.length + n ≤ 10000 ∧ s.buf.length + n ≤ 10000 ∧ ∀ e ∈ s.buf, 0 ≤ e.1 ∧ e.1 < (B.n : Int)
theorem yCan.less {B : YB} {n : Nat} {s : Yst} (h : yCan B (n + 1) s) : yCan B n s := by
  obtain ⟨h1, h2, h3, h4, h5⟩ := h
  exact ⟨by omega, by omega, by omega, by omega, h5⟩
theorem asz (a : ByteArray) (b : UInt8) : (a ++ ⟨#[b]⟩).size = a.size + 1 := by
  rw [ByteArray.size_append]; rfl
theorem yCan.flush {B : YB} {n : Nat} {s : Yst} (h : yCan B (n + 1) s) : yCan B n ((yOps B).flush s) := by
  obtain ⟨h1, h2, h3, h4, h5⟩ := h
  show yCan B n (yflush _)
  unfold yflush
  cases hb : s.buf with
  | nil => exact ⟨by show (s.asks ++ _).size + n ≤ 10000; rw [asz]; omega, by show s.evs.length + n ≤ 10000; omega, by show s.slp.length + n ≤ 10000; omega, by show ([] : List (Int × Int)).length + n ≤ 10000; simp; omega, fun e he => by cases he⟩
  | cons x l =>
    rw [hb] at h4 h5
    simp at h4
    exact ⟨by show (s.asks ++ _).size + n ≤ 10000; rw [asz]; omega, by show (s.evs ++ _).length + n ≤ 10000; simp; omega, by show s.slp.length + n ≤ 10000; omega, by show l.length + n ≤ 10000; omega, fun e he => h5 e (by simp; exact .inr he)⟩

/-- What of a Yard's parts stays as it was made. -/
structure YBok (B : YB) : Prop where
  base : B.base = 0
  n : B.n ≤ 1000000
  room : B.room ≤ 1000000
  tv : ∃ tA tl tcap, B.tv = .slice tA tl tcap ∧ 0 < tl ∧ tl ≤ 1000000

set_option maxHeartbeats 1000000 in
theorem yard_port (B : YB) (hB : YBok B) : PortOk (yOps B) (yPv B) (YInv B) (yCan B) where
  lt := fun s own W i h hi => by obtain ⟨_, _, _, _, hh, _⟩ := h; exact (hh i hi).2
  hi := fun s own W i h hi => by obtain ⟨_, _, _, _, hh, _⟩ := h; exact (hh i hi).1
  keep := YInv.keep B
  less := fun n s h => h.less
  cload := fun n s a ⟨h1, h2, h3, h4, h5⟩ => ⟨by show (s.asks ++ _).size + n ≤ 10000; rw [asz]; omega, by show s.evs.length + n ≤ 10000; omega, by show s.slp.length + n ≤ 10000; omega, by show s.buf.length + n ≤ 10000; omega, h5⟩
  cstore := fun n s a v h => by
    obtain ⟨h1, h2, h3, h4, h5⟩ := h
    show yCan B n (if a < B.n then _ else s)
    split
    · refine ⟨by show (s.asks ++ _).size + n ≤ 10000; rw [asz]; omega, by show s.evs.length + n ≤ 10000; omega, by show s.slp.length + n ≤ 10000; omega, by show (s.buf ++ _).length + n ≤ 10000; simp; omega, fun e he => ?_⟩
      rcases List.mem_append.1 he with he | he
      · exact h5 e he
      · obtain rfl := List.mem_singleton.1 he
        exact ⟨by show (0 : Int) ≤ (a : Int); omega, by show (a : Int) < (B.n : Int); omega⟩
    · exact ⟨by omega, by omega, by omega, by omega, h5⟩
  cflush := fun n s h => h.flush
  cswap := fun n s a v ⟨h1, h2, h3, h4, h5⟩ => ⟨by show (s.asks ++ _).size + n ≤ 10000; rw [asz]; omega, by show s.evs.length + n ≤ 10000; omega, by show s.slp.length + n ≤ 10000; omega, by show s.buf.length + n ≤ 10000; omega, h5⟩
  csleep := fun n s a ⟨h1, h2, h3, h4, h5⟩ => ⟨by show (s.asks ++ _).size + n ≤ 10000; rw [asz]; omega, by show s.evs.length + n ≤ 10000; omega, by show (s.slp ++ _).length + n ≤ 10000; simp; omega, by show s.buf.length + n ≤ 10000; omega, h5⟩
  cwake := fun n s a v ⟨h1, h2, h3, h4, h5⟩ => ⟨by show (s.asks ++ _).size + n ≤ 10000; rw [asz]; omega, by show s.evs.length + n ≤ 10000; omega, by show (wk _ _ s.slp).1.length + n ≤ 10000; have := wk_len (a : Int) v.toNat s.slp; omega, by show s.buf.length + n ≤ 10000; omega, h5⟩
  cremote := fun n s ⟨h1, h2, h3, h4, h5⟩ => ⟨by show (s.asks ++ _).size + n ≤ 10000; rw [asz]; omega, by show s.evs.length + n ≤ 10000; omega, by show s.slp.length + n ≤ 10000; omega, by show s.buf.length + n ≤ 10000; omega, h5⟩
  cnote := fun n s x ⟨h1, h2, h3, h4, h5⟩ => ⟨by show s.asks.size + n ≤ 10000; omega, by show (s.evs ++ _).length + n ≤ 10000; simp; omega, by show s.slp.length + n ≤ 10000; omega, by show s.buf.length + n ≤ 10000; omega, h5⟩
  goes := ⟨fun _ _ => rfl, fun _ _ => rfl, fun _ _ => rfl, fun _ _ => rfl, fun _ _ => rfl, fun _ _ => rfl, fun _ _ => rfl, fun _ _ => rfl, fun _ _ => rfl, fun _ _ => rfl⟩
  load := fun n s own W a hc h ha => yload_m B s own W h (by have := hc.1; omega) hB.n (by have := hc.2.2.2.1; omega) a ha
  room := fun n s own W hc h => yroom_m B s own W h (by have := hc.2.2.2.1; omega) hB.room
  store := fun n s own W a v hc h ha hr => by
    have := ystore_any B s own W h (by have := hc.1; omega) (by have := hc.2.2.2.1; omega) (by rw [hB.base]; omega) a v
    rw [show (yOps B).store s a v = { s with asks := s.asks ++ ⟨#[115]⟩, buf := s.buf ++ [((a : Int), v)] } from if_pos ha]
    exact this
  empty := fun n s own W hc h => yempty_m B s own W h (by have := hc.2.2.2.1; omega)
  flush := fun n s own W hc h => by
    obtain ⟨tA, tl, tcap, htv, h0, h1⟩ := hB.tv
    exact yflushP_any B s own W h tA tl tcap htv h0 h1 (by have := hc.1; omega) hc.2.2.2.2 hB.n (by have := hc.2.2.2.1; omega) (by have := hc.2.1; omega) (by rw [hB.base]; omega)
  swap := fun n s own W a v hc h ha => yswap_m B s own W h (by have := hc.1; omega) hB.n a ha v
  sleep := fun n s own W a hc h => ysleep_any B s own W h (by have := hc.1; omega) (by have := hc.2.2.1; omega) (by rw [hB.base]; omega) a
  wake := fun n s own W a v hc h h0 h1 => by
    obtain ⟨m, rfl⟩ : ∃ m : Nat, v = (m : Int) := ⟨v.toNat, by omega⟩
    exact ywake_any B s own W h (by have := hc.1; omega) (by have := hc.2.2.1; omega) (by rw [hB.base]; omega) a m (by omega)
  remote := fun n s own W hc h => yremote_m B s own W h (by have := hc.1; omega)
  note := fun n s own W x hc h => ynote_any B s own W h (by have := hc.2.1; omega) (by rw [hB.base]; omega) x
end Go.Proofs.YtjmnogpnjombgaaDoor
namespace Go.Proofs.YtjmnogpnjombgaaDoor
open Go.ChangeShapes Go.WideShapes Go.ChangeAt Go.RowKit Go.Deep
set_option linter.unusedVariables false
set_option maxRecDepth 100000
set_option linter.unusedSimpArgs false

/-- A yard that has no port yet. -/
def YPre (B : YB) (s : Yst) (own : Nat → Prop) (W : World) : Prop :=
  ∃ (bv sv ev : Value) (cur : Array Value),
    (∀ i, own i → 2 ≤ i ∧ i < W.heap.size) ∧ (own B.yb ∧ own B.bb) ∧
    (∀ g, bv.ownBlock = some g → own g) ∧ (∀ g, B.mv.ownBlock = some g → own g) ∧ (∀ g, sv.ownBlock = some g → own g) ∧ (∀ g, ev.ownBlock = some g → own g) ∧
    Blk W B.yb 43 #[B.cv, B.tv, .slice (some ⟨B.bb, 0, none⟩) B.bl B.bcap, B.mv, .int .i64 (B.room : Int), sv, ev, .bool false, .string s.asks] ∧
    Blk W B.bb 27 cur ∧ cur[0]? = some bv ∧ 0 < B.bl ∧ s.mem.length = B.n ∧
    W.ownsRow B.base 96 2 bv s.buf.length (s.buf.flatMap entc) ∧ W.ownsRow B.base 22 1 B.mv s.mem.length (s.mem.map fun z => .int .u32 z) ∧
    W.ownsRow B.base 98 2 sv s.slp.length (s.slp.flatMap slpc) ∧ W.ownsRow B.base 86 8 ev s.evs.length (s.evs.flatMap Evt.cells)
theorem YPre.keep {B : YB} {s : Yst} {own : Nat → Prop} {W W' : World} (h : YPre B s own W) (k : Stay own W W') : YPre B s own W' := by
  obtain ⟨bv, sv, ev, cur, h1, ⟨o1, o5⟩, h3, h4, h5, h6, b1, b5, c0, hl, hn, hb, hm, hs, he⟩ := h
  have bk : ∀ {g : Nat} {t : TypeId} {cs : Array Value}, Blk W g t cs → own g → Blk W' g t cs := fun hb ho => (k.own _ ho).trans hb
  exact ⟨bv, sv, ev, cur, fun i hi => ⟨(h1 i hi).1, Nat.lt_of_lt_of_le (h1 i hi).2 k.size⟩, ⟨o1, o5⟩, h3, h4, h5, h6, bk b1 o1, bk b5 o5, c0, hl, hn,
    k.row hb h3, k.row hm h4, k.row hs h5, k.row he h6⟩
def YB.at (B : YB) (wb xb ab : Nat) : YB := { B with wb := wb, xb := xb, ab := ab }
theorem YInv.of_pre {B : YB} {s : Yst} {own : Nat → Prop} {W : World} (h : YPre B s own W) {wb xb ab : Nat} (h2 : 2 ≤ wb ∧ 2 ≤ xb ∧ 2 ≤ ab) (b2 : Blk W wb 107 #[.pointer (some ⟨B.yb, 0, none⟩)]) (b3 : Blk W xb 33 #[.pointer (some ⟨B.yb, 0, none⟩)])
    (b4 : Blk W ab 108 #[.func (.func 57) #[] #[.pointer (some ⟨xb, 0, none⟩)]]) : YInv (B.at wb xb ab) s (fun i => own i ∨ i = wb ∨ i = xb ∨ i = ab) W := by
  obtain ⟨bv, sv, ev, cur, h1, ⟨o1, o5⟩, h3, h4, h5, h6, b1, b5, c0, hl, hn, hb, hm, hs, he⟩ := h
  refine ⟨bv, sv, ev, cur, fun i hi => ?_, ⟨.inl o1, .inr (.inl rfl), .inr (.inr (.inl rfl)), .inr (.inr (.inr rfl)), .inl o5⟩, fun g hg => .inl (h3 g hg), fun g hg => .inl (h4 g hg), fun g hg => .inl (h5 g hg), fun g hg => .inl (h6 g hg), b1, b2, b3, b4, b5, c0, hl, hn, hb, hm, hs, he⟩
  rcases hi with hi | rfl | rfl | rfl
  · exact h1 i hi
  · exact ⟨h2.1, b2.lt⟩
  · exact ⟨h2.2.1, b3.lt⟩
  · exact ⟨h2.2.2, b4.lt⟩
theorem YPre.lt {B : YB} {s : Yst} {own : Nat → Prop} {W : World} (h : YPre B s own W) : ∀ i, own i → i < W.heap.size := fun i hi => by obtain ⟨_, _, _, _, hh, _⟩ := h; exact (hh i hi).2
theorem YPre.mvc {B : YB} {s : Yst} {own : Nat → Prop} {W : World} (h : YPre B s own W) : ∃ A cap, B.mv = .slice A B.n cap ∧ W.cell? ⟨B.yb, 3, none⟩ = some (.slice A B.n cap) ∧ 2 ≤ B.yb ∧ B.yb < W.heap.size := by
  obtain ⟨bv, sv, ev, cur, h1, ⟨o1, o5⟩, h3, h4, h5, h6, b1, b5, c0, hl, hn, hb, hm, hs, he⟩ := h
  obtain ⟨A, cap, e, _, _⟩ := own_cap hm
  rw [hn] at e
  have := h1 _ o1
  exact ⟨A, cap, e, by rw [← e]; exact (b1.cell 3).trans rfl, this.1, this.2⟩
theorem port_info : (Tryd.prog.info? 51).map (·.size) = some 11 := by kernel_rfl

theorem pv_one (V : Pv) (n : Nat) : (V.arr n).all (·.oneCell') = true := by
  simp [Pv.arr, Value.oneCell', Fv.val]
def port0 : Array Value := #[.int .i64 0, .nilFunc, .nilFunc, .nilFunc, .nilFunc, .nilFunc, .nilFunc, .nilFunc, .nilFunc, .nilFunc, .nilFunc]

set_option maxHeartbeats 4000000 in
theorem yport_any (B : YB) (s : Yst) (own : Nat → Prop) (W : World) (h : YPre B s own W) :
    Calls Tryd.prog 18 #[.pointer (some ⟨B.yb, 0, none⟩)] W fun e W' => ∃ wb xb ab, e = .returned ((yPv (B.at wb xb ab)).val B.n) ∧ YInv (B.at wb xb ab) s (fun i => own i ∨ i = wb ∨ i = xb ∨ i = ab) W' ∧ (W.heap.size ≤ wb ∧ W.heap.size ≤ xb ∧ W.heap.size ≤ ab) ∧ Below W.heap.size W W' := by
  obtain ⟨A, cap, hmv, y3, h2, hlt⟩ := h.mvc
  have X1 := ((Blk.new W 33 #[.pointer (some ⟨B.yb, 0, none⟩)]).alloc (.cells port0 51)).alloc (.cells #[.pointer (some ⟨B.yb, 0, none⟩)] 107)
  have P1 := (Blk.new2 W (.cells #[.pointer (some ⟨B.yb, 0, none⟩)] 33) 51 port0).alloc (.cells #[.pointer (some ⟨B.yb, 0, none⟩)] 107)
  have V1 := Blk.new2 (W.alloc (.cells #[.pointer (some ⟨B.yb, 0, none⟩)] 33)) (.cells port0 51) 107 #[.pointer (some ⟨B.yb, 0, none⟩)]
  rw [show (W.alloc (.cells #[.pointer (some ⟨B.yb, 0, none⟩)] 33)).heap.size = W.heap.size + 1 by simp] at V1
  have hB3 := below3 W (.cells #[.pointer (some ⟨B.yb, 0, none⟩)] 33) (.cells port0 51) (.cells #[.pointer (some ⟨B.yb, 0, none⟩)] 107)
  have hz3 : (((W.alloc (.cells #[.pointer (some ⟨B.yb, 0, none⟩)] 33)).alloc (.cells port0 51)).alloc (.cells #[.pointer (some ⟨B.yb, 0, none⟩)] 107)).heap.size = W.heap.size + 1 + 1 + 1 := by simp
  generalize hW3 : ((W.alloc (.cells #[.pointer (some ⟨B.yb, 0, none⟩)] 33)).alloc (.cells port0 51)).alloc (.cells #[.pointer (some ⟨B.yb, 0, none⟩)] 107) = W3 at X1 P1 V1 hB3 hz3
  have X2 := X1.alloc (.cells #[.func (.func 57) #[] #[.pointer (some ⟨W.heap.size, 0, none⟩)]] 108)
  have P2 := P1.alloc (.cells #[.func (.func 57) #[] #[.pointer (some ⟨W.heap.size, 0, none⟩)]] 108)
  have V2 := V1.alloc (.cells #[.func (.func 57) #[] #[.pointer (some ⟨W.heap.size, 0, none⟩)]] 108)
  have A2 := Blk.new W3 108 #[.func (.func 57) #[] #[.pointer (some ⟨W.heap.size, 0, none⟩)]]
  have hB4 := hB3.alloc hB3.size (.cells #[.func (.func 57) #[] #[.pointer (some ⟨W.heap.size, 0, none⟩)]] 108)
  rw [hz3] at A2
  have hw3 : (W3.alloc (.cells #[.func (.func 57) #[] #[.pointer (some ⟨W.heap.size, 0, none⟩)]] 108)).cell? ⟨B.yb, 3, none⟩ = some (.slice A B.n cap) := keepAt hB4 hlt y3
  have hv0 : (W3.alloc (.cells #[.func (.func 57) #[] #[.pointer (some ⟨W.heap.size, 0, none⟩)]] 108)).cell? ⟨W.heap.size + 1 + 1, 0, none⟩ = some (.pointer (some ⟨B.yb, 0, none⟩)) := (V2.cell 0).trans rfl
  have HX := Lib.hid (And.intro X2 (And.intro V2 (And.intro A2 (And.intro hB4 (And.intro h (And.intro h2 hz3))))))
  clear X1 P1 V1 hB3 X2 V2 A2 hB4 h y3
  unfold port0 at hW3
  go_enter Tryd.func18, Tryd.ntmps18
  go_upto_region 3 with fail
  try rw [hW3]
  try rw [hz3]
  go_wp2_with (refine wpList_store_row rfl 51 (.tmp 2) (.tmp 24) rfl _ rfl ((yPv (B.at (W.heap.size + 1 + 1) W.heap.size (W.heap.size + 1 + 1 + 1))).arr B.n) rfl 51 port0 P2 rfl port_info (pv_one _ _) ?_; intro W5 hb5 hg5)
  exact bodyPost_ret (results_cell Tryd.results18 _ _ _ _ rfl (run_row _ _ _ _ _ _ hb5 Tryd.underlying51 rfl port_info)) rfl ⟨W.heap.size + 1 + 1, W.heap.size, W.heap.size + 1 + 1 + 1, rfl, by
    obtain ⟨X2, V2, A2, hB4, h, h2, hz3⟩ := HX.out
    have k : ∀ {g : Nat} {t : TypeId} {cs : Array Value}, Blk (W3.alloc (.cells #[.func (.func 57) #[] #[.pointer (some ⟨W.heap.size, 0, none⟩)]] 108)) g t cs → g ≠ W.heap.size + 1 → Blk W5 g t cs := fun hb hne => hb.grown hg5 (fun e => hne (Option.some.inj e))
    refine ⟨YInv.of_pre (h.keep ⟨fun i hi => ?_, Nat.le_trans hB4.size hg5.size⟩) ⟨by omega, by omega, by omega⟩ (k V2 (by omega)) (k X2 (by omega)) (k A2 (by omega)), ⟨by omega, by omega, by omega⟩, below_row hB4 hg5 hB4.size (by omega)⟩
    have := h.lt i hi
    exact (hg5.block i (Nat.lt_of_lt_of_le this hB4.size) (fun e => by have := Option.some.inj e; omega)).trans (hB4.block i this)⟩
end Go.Proofs.YtjmnogpnjombgaaDoor
