/- law08's Yard: note, sleep. law08's Yard: store. -/
import Derived.Test.YtjmnogpnjombgaaDoorYardA1
namespace Go.Proofs.YtjmnogpnjombgaaDoor
open Go.ChangeShapes Go.WideShapes Go.ChangeAt Go.RowKit Go.Deep
set_option linter.unusedVariables false
set_option maxRecDepth 100000
set_option linter.unusedSimpArgs false

def evArr (x : Evt) : Array Value := #[.int .i64 x.kind, .int .i64 x.who, .int .i64 x.pc, .int .i64 x.addr, .int .u32 x.value, .int .u32 x.old, .int .u32 x.k, .bool x.ok]
theorem evt_info : (Tryd.prog.info? 86).map (·.size) = some 8 := by kernel_rfl
theorem evt_info3 : (Tryd.prog.info? 86).map (fun i => (i.zero, i.size, i.bytes)) = some (some (.agg #[.int .i64 0, .int .i64 0, .int .i64 0, .int .i64 0, .int .u32 0, .int .u32 0, .int .u32 0, .bool false]), 8, 48) := by kernel_rfl
theorem slp_info3 : (Tryd.prog.info? 98).map (fun i => (i.zero, i.size, i.bytes)) = some (some (.agg #[.int .i64 0, .int .i64 0]), 2, 16) := by kernel_rfl
theorem ent_info3 : (Tryd.prog.info? 96).map (fun i => (i.zero, i.size, i.bytes)) = some (some (.agg #[.int .i64 0, .int .u32 0]), 2, 16) := by kernel_rfl
theorem evt_one (x : Evt) : ∀ k, k < 1 * 8 → (x.cells.getD k undef).oneCell' = true := fun k hk => by
  rcases (by omega : k = 0 ∨ k = 1 ∨ k = 2 ∨ k = 3 ∨ k = 4 ∨ k = 5 ∨ k = 6 ∨ k = 7) with rfl | rfl | rfl | rfl | rfl | rfl | rfl | rfl <;> rfl
theorem slpc_one (x : Int × Int) : ∀ k, k < 1 * 2 → ((slpc x).getD k undef).oneCell' = true := fun k hk => by
  rcases (by omega : k = 0 ∨ k = 1) with rfl | rfl <;> rfl
theorem entc_one (x : Int × Int) : ∀ k, k < 1 * 2 → ((entc x).getD k undef).oneCell' = true := fun k hk => by
  rcases (by omega : k = 0 ∨ k = 1) with rfl | rfl <;> rfl
theorem YInv.evs {B : YB} {s : Yst} {own : Nat → Prop} {W : World} (h : YInv B s own W) : ∃ (arr : Array Value) (A : Option Addr) (cap : Nat), Blk W B.wb 107 #[.pointer (some ⟨B.yb, 0, none⟩)] ∧ Blk W B.yb 43 arr ∧ arr[6]? = some (.slice A s.evs.length cap) ∧
    W.ownsRow B.base 86 8 (.slice A s.evs.length cap) s.evs.length (s.evs.flatMap Evt.cells) ∧ some B.wb ≠ (Value.slice A s.evs.length cap).ownBlock ∧ some B.yb ≠ (Value.slice A s.evs.length cap).ownBlock ∧ (∀ g, (Value.slice A s.evs.length cap).ownBlock = some g → g < W.heap.size) := by
  obtain ⟨bv, sv, ev, cur, h1, ho, h3, h4, h5, h6, b1, b2, b3, b4, b5, c0, hl, hn, hb, hm, hs, he⟩ := h
  obtain ⟨A, cap, rfl, _, _⟩ := own_cap he
  exact ⟨_, A, cap, b2, b1, rfl, he, row_ne b2 he (by decide), row_ne b1 he (by decide), fun g hg => (own_in he g hg).2⟩
theorem YInv.slps {B : YB} {s : Yst} {own : Nat → Prop} {W : World} (h : YInv B s own W) : ∃ (arr : Array Value) (A : Option Addr) (cap : Nat), Blk W B.wb 107 #[.pointer (some ⟨B.yb, 0, none⟩)] ∧ Blk W B.yb 43 arr ∧ arr[5]? = some (.slice A s.slp.length cap) ∧
    W.ownsRow B.base 98 2 (.slice A s.slp.length cap) s.slp.length (s.slp.flatMap slpc) ∧ some B.wb ≠ (Value.slice A s.slp.length cap).ownBlock ∧ some B.yb ≠ (Value.slice A s.slp.length cap).ownBlock := by
  obtain ⟨bv, sv, ev, cur, h1, ho, h3, h4, h5, h6, b1, b2, b3, b4, b5, c0, hl, hn, hb, hm, hs, he⟩ := h
  obtain ⟨A, cap, rfl, _, _⟩ := own_cap hs
  exact ⟨_, A, cap, b2, b1, rfl, hs, row_ne b2 hs (by decide), row_ne b1 hs (by decide)⟩

set_option maxHeartbeats 2000000 in
theorem ynote_any (B : YB) (s : Yst) (own : Nat → Prop) (W : World) (h : YInv B s own W) (hx : s.evs.length + 1 ≤ 1000000) (hb : B.base ≤ W.heap.size) (x : Evt) :
    Calls Tryd.prog 69 #[.agg #[.int .i64 x.kind, .int .i64 x.who, .int .i64 x.pc, .int .i64 x.addr, .int .u32 x.value, .int .u32 x.old, .int .u32 x.k, .bool x.ok], .pointer (some ⟨B.wb, 0, none⟩)] W fun e W' => (∃ u, e = .returned u) ∧ Moves (YInv B) { s with evs := s.evs ++ [x] } own W W' := by
  obtain ⟨arr, A, cap, hwb, hyb, ha6, hr, hnw, hny, hlb⟩ := h.evs
  obtain ⟨i0, hi, hy0, hy1, hy2⟩ := info_parts evt_info3
  have HC6 := (hyb.cell 6).trans ha6
  have HY := Lib.hid h
  obtain ⟨n, hn⟩ : ∃ n, s.evs.length = n := ⟨_, rfl⟩
  have hal := (Below.refl W.heap.size W).alloc (Nat.le_refl _) (.cells (evArr x) 86)
  have hr1 := own_below hr (Nat.le_refl _) hal
  have HX := Lib.hid (And.intro (Blk.new W 86 (evArr x)).drew (show some W.heap.size ≠ (Value.slice A s.evs.length cap).ownBlock from fun e => Nat.lt_irrefl _ (hlb _ e.symm)))
  have HG := Lib.hid (show W.grownBy (W.alloc (.cells (evArr x) 86)).drew (Value.slice A s.evs.length cap).ownBlock from ⟨rfl, rfl, rfl, hal.size, fun i hi _ => hal.block i hi⟩)
  have HR := Lib.hid (show (W.alloc (.cells (evArr x) 86)).drew.ownsRow B.base 86 8 (.slice A s.evs.length cap) s.evs.length (s.evs.flatMap Evt.cells) from hr1)
  have HC := Lib.hid (And.intro (Blk.below hwb hal hwb.lt).drew (And.intro (Blk.below hyb hal hyb.lt).drew (And.intro ha6 (And.intro hnw hny))))
  have hb2 : B.base ≤ (W.alloc (.cells (evArr x) 86)).drew.heap.size := Nat.le_trans hb hal.size
  rw [hn] at hx HX HG HR HC HC6
  have hE := fun W4 v4 (h1 : W.grownBy W4 (Value.slice A n cap).ownBlock) (h2 : W4.ownsRow B.base 86 8 v4 (n + 1) (s.evs.flatMap Evt.cells ++ x.cells)) h3 => HY.out.grow6 HC6 h1 (by rw [hn]; exact h2) h3
  have HE0 := Lib.hid hE
  clear h hwb hyb ha6 hr hr1 hnw hny hlb hal hn hE HY HC6
  unfold evArr at HX HG HR HC hb2
  go_enter Tryd.func69, Tryd.ntmps69
  go_wp2
  refine startG (fun W' => (W.alloc (.cells #[.int .i64 x.kind, .int .i64 x.who, .int .i64 x.pc, .int .i64 x.addr, .int .u32 x.value, .int .u32 x.old, .int .u32 x.k, .bool x.ok] 86)).drew.grownBy W' (Value.slice A n cap).ownBlock) 10 (by kernel_rfl) ?_
  obtain ⟨xb, hxb⟩ : ∃ xb, W.heap.size = xb := ⟨_, rfl⟩
  rw [hxb] at HX
  try rw [hxb]
  generalize (W.alloc (.cells #[.int .i64 x.kind, .int .i64 x.who, .int .i64 x.pc, .int .i64 x.addr, .int .u32 x.value, .int .u32 x.old, .int .u32 x.k, .bool x.ok] 86)).drew = W2 at HX HG HR HC hb2 ⊢
  have hg0 : W2.grownBy W2 (Value.slice A n cap).ownBlock := World.grownBy.refl _ _
  refine takeG (i := 0) (v := .pointer (some ⟨B.yb, 0, none⟩)) rfl (by kernel_rfl) (by kernel_rfl) (by kernel_rfl) (by kernel_rfl) (fun _ _ _ h => h) (Or.inl ⟨by rfl, fun W hW => by have q0 := ((HC.out.1.grown hW HC.out.2.2.2.1).cell 0).trans rfl; go_simp⟩) hg0 ?_
  simp only [Act.put, List.getElem_toArray, List.getElem_cons_zero, List.getElem_cons_succ, List.setIfInBounds_toArray, List.set_cons_zero, List.set_cons_succ]
  refine takeG (i := 1) (v := .pointer (some ⟨B.yb, 0, none⟩)) rfl (by kernel_rfl) (by kernel_rfl) (by kernel_rfl) (by kernel_rfl) (fun _ _ _ h => h) (Or.inl ⟨by rfl, fun W hW => by have q0 := ((HC.out.1.grown hW HC.out.2.2.2.1).cell 0).trans rfl; go_simp⟩) hg0 ?_
  simp only [Act.put, List.getElem_toArray, List.getElem_cons_zero, List.getElem_cons_succ, List.setIfInBounds_toArray, List.set_cons_zero, List.set_cons_succ]
  refine takeG0 (i := 2) (v := .pointer (some ⟨B.yb, 0, none⟩)) rfl (by kernel_rfl) (by kernel_rfl) (by kernel_rfl) (by kernel_rfl) (fun _ _ _ h => h) (Or.inl ⟨by rfl, fun W hW => by go_simp⟩) hg0 ?_
  simp only [Act.put, List.getElem_toArray, List.getElem_cons_zero, List.getElem_cons_succ, List.setIfInBounds_toArray, List.set_cons_zero, List.set_cons_succ]
  refine takeG0 (i := 3) (v := .pointer (some ⟨B.yb, 6, none⟩)) rfl (by kernel_rfl) (by kernel_rfl) (by kernel_rfl) (by kernel_rfl) (fun _ _ _ h => h) (Or.inl ⟨by rfl, fun W hW => by go_simp⟩) hg0 ?_
  simp only [Act.put, List.getElem_toArray, List.getElem_cons_zero, List.getElem_cons_succ, List.setIfInBounds_toArray, List.set_cons_zero, List.set_cons_succ]
  refine takeG (i := 4) (v := .slice A n cap) rfl (by kernel_rfl) (by kernel_rfl) (by kernel_rfl) (by kernel_rfl) (fun _ _ _ h => h) (Or.inl ⟨by rfl, fun W hW => by have q0 := ((HC.out.2.1.grown hW HC.out.2.2.2.2).cell 6).trans HC.out.2.2.1; go_simp⟩) hg0 ?_
  simp only [Act.put, List.getElem_toArray, List.getElem_cons_zero, List.getElem_cons_succ, List.setIfInBounds_toArray, List.set_cons_zero, List.set_cons_succ]
  refine takeG (i := 5) (v := .agg (evArr x)) rfl (by kernel_rfl) (by kernel_rfl) (by kernel_rfl) (by kernel_rfl) (fun _ _ _ h => h) (yields_row (by rfl) 86 (.tmp 2) rfl xb rfl (evArr x) (fun _ hS => run_row _ _ _ _ _ _ (HX.out.1.grown hS HX.out.2) Tryd.underlying86 rfl evt_info)) hg0 ?_
  simp only [Act.put, List.getElem_toArray, List.getElem_cons_zero, List.getElem_cons_succ, List.setIfInBounds_toArray, List.set_cons_zero, List.set_cons_succ]
  unfold evArr
  refine onlyG (i := 6) (by kernel_rfl) rfl (fun K hK => ?_)
  go_simp
  have hA : W2.grownBy (W2.alloc (.cells #[.int .i64 x.kind, .int .i64 x.who, .int .i64 x.pc, .int .i64 x.addr, .int .u32 x.value, .int .u32 x.old, .int .u32 x.k, .bool x.ok] 86)) (Value.slice A n cap).ownBlock := grown_alloc (World.grownBy.refl _ _) _
  have own2 := own_below HR.out (Nat.le_refl _) ((Below.refl W2.heap.size W2).alloc (Nat.le_refl _) (.cells #[.int .i64 x.kind, .int .i64 x.who, .int .i64 x.pc, .int .i64 x.addr, .int .u32 x.value, .int .u32 x.old, .int .u32 x.k, .bool x.ok] 86))
  have src := sl_new W2 86 x.cells
  refine hK.out _ _ hA (fun _ => ?_)
  clear hK K
  try simp only [Act.put, List.getElem_toArray, List.getElem_cons_zero, List.getElem_cons_succ, List.setIfInBounds_toArray, List.set_cons_zero, List.set_cons_succ]
  refine onlyG (i := 7) (by kernel_rfl) rfl (fun K hK => ?_)
  rw [if_pos (by rfl)]
  refine wp_append_sl _ (.tmp 7) (.tmp 9) 38 rfl B.base 86 i0 _ 8 48 Tryd.underlying38 hi hy0 hy1 hy2 rfl (by omega) _ n _ rfl own2 _ 1 _ (fun i => x.cells.getD i undef) rfl src (evt_one x) (by unfold maxLen; omega) (by omega) (by simp; omega) ?_
  intro v4 W4 own4 hg4 hv4
  rw [range_getD x.cells (1 * 8) rfl] at own4
  have hg4' := grown_trans' hA hg4
  have hv5 : v4.ownBlock = (Value.slice A n cap).ownBlock ∨ ∃ g, v4.ownBlock = some g ∧ W.heap.size ≤ g := hv4.imp id (fun e => ⟨_, e, Nat.le_trans HG.out.size hA.size⟩)
  obtain ⟨A4, cap4, rfl, _, _⟩ := own_sl own4
  have y6 := ((HC.out.2.1.grown hg4' HC.out.2.2.2.2).cell 6).trans HC.out.2.2.1
  have f6 := (HC.out.2.1.grown hg4' HC.out.2.2.2.2).frozen 6
  refine hK.out _ _ hg4' (fun _ => ?_)
  clear hK K hg4 hv4 own2 src hA
  try simp only [Act.put, List.getElem_toArray, List.getElem_cons_zero, List.getElem_cons_succ, List.setIfInBounds_toArray, List.set_cons_zero, List.set_cons_succ]
  refine takeG0 (i := 8) (v := .pointer (some ⟨B.yb, 0, none⟩)) rfl (by kernel_rfl) (by kernel_rfl) (by kernel_rfl) (by kernel_rfl) (fun _ _ _ h => h) (Or.inl ⟨by rfl, fun W hW => by go_simp⟩) hg4' ?_
  simp only [Act.put, List.getElem_toArray, List.getElem_cons_zero, List.getElem_cons_succ, List.setIfInBounds_toArray, List.set_cons_zero, List.set_cons_succ]
  refine takeG0 (i := 9) (v := .pointer (some ⟨B.yb, 6, none⟩)) rfl (by kernel_rfl) (by kernel_rfl) (by kernel_rfl) (by kernel_rfl) (fun _ _ _ h => h) (Or.inl ⟨by rfl, fun W hW => by go_simp⟩) hg4' ?_
  simp only [Act.put, List.getElem_toArray, List.getElem_cons_zero, List.getElem_cons_succ, List.setIfInBounds_toArray, List.set_cons_zero, List.set_cons_succ]
  refine lastG (by kernel_rfl) rfl (by kernel_rfl) (fun K hK => ?_)
  go_simp
  refine hK.out _ _ ?_
  clear hK K
  have HE := Lib.hid (HE0.out _ _ (grown_trans' HG.out hg4') own4 hv5)
  clear own4 hv5 hg4' y6 f6
  go_wp2
  go_end0
  exact ⟨⟨_, rfl⟩, HE.out⟩

set_option maxHeartbeats 2000000 in
theorem ysleep_any (B : YB) (s : Yst) (own : Nat → Prop) (W0 : World) (h : YInv B s own W0) (hx : s.asks.size + 1 ≤ 1000000) (hs : s.slp.length + 1 ≤ 1000000) (hb : B.base ≤ W0.heap.size) (a : Nat) :
    Calls Tryd.prog 65 #[.int .i64 (a : Int), .pointer (some ⟨B.ab, 0, none⟩), .pointer (some ⟨B.wb, 0, none⟩)] W0 fun e W' => (∃ u, e = .returned u) ∧ Moves (YInv B) { s with asks := s.asks ++ ⟨#[122]⟩, slp := s.slp ++ [(0, (a : Int))] } own W0 W' := by
  have hA := yask_any B s own W0 h ⟨#[122]⟩ hx
  obtain ⟨a0, _, _⟩ := h.abx
  have hoy := h.oyb
  obtain ⟨i0, hi, hy0, hy1, hy2⟩ := info_parts slp_info3
  clear h hx
  go_enter Tryd.func65, Tryd.ntmps65
  go_wp2_with fail
  refine hA.mono ?_
  rintro e W ⟨⟨u, rfl⟩, h, hg1⟩
  have HM := Lib.hid (ymoves h hg1 hoy)
  have hb : B.base ≤ W.heap.size := Nat.le_trans hb hg1.size
  obtain ⟨arr, A, cap, hwb, hyb, ha6, hr, hnw, hny⟩ := h.slps
  dsimp only at ha6 hr hnw hny
  have HC6 := (hyb.cell 5).trans ha6
  obtain ⟨n, hn⟩ : ∃ n, s.slp.length = n := ⟨_, rfl⟩
  have HG := Lib.hid (show W.grownBy W.drew (Value.slice A s.slp.length cap).ownBlock from ⟨rfl, rfl, rfl, Nat.le_refl _, fun i hi _ => rfl⟩)
  have HR := Lib.hid (show W.drew.ownsRow B.base 98 2 (.slice A s.slp.length cap) s.slp.length (s.slp.flatMap slpc) from hr)
  have HC := Lib.hid (And.intro hwb.drew (And.intro hyb.drew (And.intro ha6 (And.intro hnw hny))))
  have hb2 : B.base ≤ W.drew.heap.size := hb
  rw [hn] at hs HG HR HC HC6
  have hE := fun own1 (h1 : YInv B _ own1 W) W4 v4 (h2 : W.grownBy W4 (Value.slice A n cap).ownBlock) (h3 : W4.ownsRow B.base 98 2 v4 (n + 1) (s.slp.flatMap slpc ++ slpc (0, (a : Int)))) h4 => YInv.grow5 (x := (0, (a : Int))) (s := { s with asks := s.asks ++ ⟨#[122]⟩ }) h1 HC6 h2 (by dsimp only; rw [hn]; exact h3) h4
  have HE0 := Lib.hid hE
  clear h hwb hyb ha6 hr hnw hny hn hE HC6 hA a0 hg1
  go_wp2
  refine startG (fun W' => W.drew.grownBy W' (Value.slice A n cap).ownBlock) 11 (by kernel_rfl) ?_
  generalize W.drew = W2 at HG HR HC hb2 ⊢
  have hg0 : W2.grownBy W2 (Value.slice A n cap).ownBlock := World.grownBy.refl _ _
  refine takeG (i := 0) (v := .pointer (some ⟨B.yb, 0, none⟩)) rfl (by kernel_rfl) (by kernel_rfl) (by kernel_rfl) (by kernel_rfl) (fun _ _ _ h => h) (Or.inl ⟨by rfl, fun W hW => by have q0 := ((HC.out.1.grown hW HC.out.2.2.2.1).cell 0).trans rfl; go_simp⟩) hg0 ?_
  simp only [Act.put, List.getElem_toArray, List.getElem_cons_zero, List.getElem_cons_succ, List.setIfInBounds_toArray, List.set_cons_zero, List.set_cons_succ]
  refine takeG (i := 1) (v := .pointer (some ⟨B.yb, 0, none⟩)) rfl (by kernel_rfl) (by kernel_rfl) (by kernel_rfl) (by kernel_rfl) (fun _ _ _ h => h) (Or.inl ⟨by rfl, fun W hW => by have q0 := ((HC.out.1.grown hW HC.out.2.2.2.1).cell 0).trans rfl; go_simp⟩) hg0 ?_
  simp only [Act.put, List.getElem_toArray, List.getElem_cons_zero, List.getElem_cons_succ, List.setIfInBounds_toArray, List.set_cons_zero, List.set_cons_succ]
  refine takeG0 (i := 2) (v := .pointer (some ⟨B.yb, 0, none⟩)) rfl (by kernel_rfl) (by kernel_rfl) (by kernel_rfl) (by kernel_rfl) (fun _ _ _ h => h) (Or.inl ⟨by rfl, fun W hW => by go_simp⟩) hg0 ?_
  simp only [Act.put, List.getElem_toArray, List.getElem_cons_zero, List.getElem_cons_succ, List.setIfInBounds_toArray, List.set_cons_zero, List.set_cons_succ]
  refine takeG0 (i := 3) (v := .pointer (some ⟨B.yb, 5, none⟩)) rfl (by kernel_rfl) (by kernel_rfl) (by kernel_rfl) (by kernel_rfl) (fun _ _ _ h => h) (Or.inl ⟨by rfl, fun W hW => by go_simp⟩) hg0 ?_
  simp only [Act.put, List.getElem_toArray, List.getElem_cons_zero, List.getElem_cons_succ, List.setIfInBounds_toArray, List.set_cons_zero, List.set_cons_succ]
  refine takeG (i := 4) (v := .slice A n cap) rfl (by kernel_rfl) (by kernel_rfl) (by kernel_rfl) (by kernel_rfl) (fun _ _ _ h => h) (Or.inl ⟨by rfl, fun W hW => by have q0 := ((HC.out.2.1.grown hW HC.out.2.2.2.2).cell 5).trans HC.out.2.2.1; go_simp⟩) hg0 ?_
  simp only [Act.put, List.getElem_toArray, List.getElem_cons_zero, List.getElem_cons_succ, List.setIfInBounds_toArray, List.set_cons_zero, List.set_cons_succ]
  refine takeG0 (i := 5) (v := .int .i64 (a : Int)) rfl (by kernel_rfl) (by kernel_rfl) (by kernel_rfl) (by kernel_rfl) (fun _ _ _ h => h) (Or.inl ⟨by rfl, fun W hW => by go_simp⟩) hg0 ?_
  simp only [Act.put, List.getElem_toArray, List.getElem_cons_zero, List.getElem_cons_succ, List.setIfInBounds_toArray, List.set_cons_zero, List.set_cons_succ]
  refine takeG0 (i := 6) (v := .agg #[.int .i64 0, .int .i64 (a : Int)]) rfl (by kernel_rfl) (by kernel_rfl) (by kernel_rfl) (by kernel_rfl) (fun _ _ _ h => h) (Or.inl ⟨by rfl, fun W hW => by go_simp⟩) hg0 ?_
  simp only [Act.put, List.getElem_toArray, List.getElem_cons_zero, List.getElem_cons_succ, List.setIfInBounds_toArray, List.set_cons_zero, List.set_cons_succ]
  refine onlyG (i := 7) (by kernel_rfl) rfl (fun K hK => ?_)
  go_simp
  have hA : W2.grownBy (W2.alloc (.cells #[.int .i64 0, .int .i64 (a : Int)] 98)) (Value.slice A n cap).ownBlock := grown_alloc (World.grownBy.refl _ _) _
  have own2 := own_below HR.out (Nat.le_refl _) ((Below.refl W2.heap.size W2).alloc (Nat.le_refl _) (.cells #[.int .i64 0, .int .i64 (a : Int)] 98))
  have src := sl_new W2 98 (slpc (0, (a : Int)))
  refine hK.out _ _ hA (fun _ => ?_)
  clear hK K
  try simp only [Act.put, List.getElem_toArray, List.getElem_cons_zero, List.getElem_cons_succ, List.setIfInBounds_toArray, List.set_cons_zero, List.set_cons_succ]
  refine onlyG (i := 8) (by kernel_rfl) rfl (fun K hK => ?_)
  rw [if_pos (by rfl)]
  refine wp_append_sl _ (.tmp 10) (.tmp 13) 37 rfl B.base 98 i0 _ 2 16 Tryd.underlying37 hi hy0 hy1 hy2 rfl (by omega) _ n _ rfl own2 _ 1 _ (fun i => (slpc (0, (a : Int))).getD i undef) rfl src (slpc_one _) (by unfold maxLen; omega) (by omega) (by simp; omega) ?_
  intro v4 W4 own4 hg4 hv4
  rw [range_getD (slpc (0, (a : Int))) (1 * 2) rfl] at own4
  have hg4' := grown_trans' hA hg4
  have hv5 : v4.ownBlock = (Value.slice A n cap).ownBlock ∨ ∃ g, v4.ownBlock = some g ∧ W.heap.size ≤ g := hv4.imp id (fun e => ⟨_, e, Nat.le_trans HG.out.size hA.size⟩)
  obtain ⟨A4, cap4, rfl, _, _⟩ := own_sl own4
  have y6 := ((HC.out.2.1.grown hg4' HC.out.2.2.2.2).cell 5).trans HC.out.2.2.1
  have f6 := (HC.out.2.1.grown hg4' HC.out.2.2.2.2).frozen 5
  refine hK.out _ _ hg4' (fun _ => ?_)
  clear hK K hg4 hv4 own2 src hA
  try simp only [Act.put, List.getElem_toArray, List.getElem_cons_zero, List.getElem_cons_succ, List.setIfInBounds_toArray, List.set_cons_zero, List.set_cons_succ]
  refine takeG0 (i := 9) (v := .pointer (some ⟨B.yb, 0, none⟩)) rfl (by kernel_rfl) (by kernel_rfl) (by kernel_rfl) (by kernel_rfl) (fun _ _ _ h => h) (Or.inl ⟨by rfl, fun W hW => by go_simp⟩) hg4' ?_
  simp only [Act.put, List.getElem_toArray, List.getElem_cons_zero, List.getElem_cons_succ, List.setIfInBounds_toArray, List.set_cons_zero, List.set_cons_succ]
  refine takeG0 (i := 10) (v := .pointer (some ⟨B.yb, 5, none⟩)) rfl (by kernel_rfl) (by kernel_rfl) (by kernel_rfl) (by kernel_rfl) (fun _ _ _ h => h) (Or.inl ⟨by rfl, fun W hW => by go_simp⟩) hg4' ?_
  simp only [Act.put, List.getElem_toArray, List.getElem_cons_zero, List.getElem_cons_succ, List.setIfInBounds_toArray, List.set_cons_zero, List.set_cons_succ]
  refine lastG (by kernel_rfl) rfl (by kernel_rfl) (fun K hK => ?_)
  go_simp
  refine hK.out _ _ ?_
  clear hK K
  have HE := Lib.hid (HM.out.bind (fun own1 h1 => HE0.out own1 h1 _ _ (grown_trans' HG.out hg4') own4 hv5))
  clear own4 hv5 hg4' y6 f6
  go_wp2
  go_end0
  exact ⟨⟨_, rfl⟩, HE.out⟩
end Go.Proofs.YtjmnogpnjombgaaDoor
namespace Go.Proofs.YtjmnogpnjombgaaDoor
open Go.ChangeShapes Go.WideShapes Go.ChangeAt Go.RowKit Go.Deep
set_option linter.unusedVariables false
set_option maxRecDepth 100000
set_option linter.unusedSimpArgs false

theorem yown_none (w : World) (t : TypeId) (size : Nat) : (w.alloc (.cells #[] t)).ownsRow w.heap.size t size (.slice (some ⟨w.heap.size, 0, none⟩) 0 0) 0 [] :=
  ⟨by simp, .inr ⟨_, 0, #[], rfl, Nat.le_refl _, heap_alloc_new w _, Nat.le_refl _, Nat.zero_le _, by simp, by simp⟩⟩
theorem entcs_one (l : List (Int × Int)) : ∀ k, k < l.length * 2 → ((l.flatMap entc).getD k undef).oneCell' = true := fun k hk => by
  have := flat_get entc 2 (fun _ => rfl) (0, 0) l (k / 2) (by omega) (k % 2) (by omega)
  rw [show k / 2 * 2 + k % 2 = k from by omega] at this
  rw [List.getD_eq_getElem?_getD, this]
  rcases (by omega : k % 2 = 0 ∨ k % 2 = 1) with e | e <;> rw [e] <;> rfl
theorem YInv.bufrow {B : YB} {s : Yst} {own : Nat → Prop} {W : World} (h : YInv B s own W) : ∃ (arr cur : Array Value) (A : Option Addr) (cap : Nat), Blk W B.wb 107 #[.pointer (some ⟨B.yb, 0, none⟩)] ∧ Blk W B.yb 43 arr ∧ arr[2]? = some (.slice (some ⟨B.bb, 0, none⟩) B.bl B.bcap) ∧
    Blk W B.bb 27 cur ∧ cur[0]? = some (.slice A s.buf.length cap) ∧ Sl W A (s.buf.length * 2) (fun i => (s.buf.flatMap entc).getD i undef) ∧ 0 < B.bl := by
  obtain ⟨bv, sv, ev, cur, h1, ho, h3, h4, h5, h6, b1, b2, b3, b4, b5, c0, hl, hn, hb, hm, hs, he⟩ := h
  obtain ⟨A, cap, rfl, _, hsl⟩ := own_sl hb
  exact ⟨_, cur, A, cap, b2, b1, rfl, b5, c0, hsl, hl⟩

set_option maxHeartbeats 4000000 in
theorem ystore_any (B : YB) (s : Yst) (own : Nat → Prop) (W00 : World) (h : YInv B s own W00) (hx : s.asks.size + 1 ≤ 1000000) (hs : s.buf.length + 1 ≤ 1000000) (hb : B.base ≤ W00.heap.size) (a : Nat) (v : Int) :
    Calls Tryd.prog 60 #[.int .i64 (a : Int), .int .u32 v, .pointer (some ⟨B.ab, 0, none⟩), .pointer (some ⟨B.wb, 0, none⟩)] W00 fun e W' => (∃ u, e = .returned u) ∧ Moves (YInv B) { s with asks := s.asks ++ ⟨#[115]⟩, buf := s.buf ++ [((a : Int), v)] } own W00 W' := by
  have hA := yask_any B s own W00 h ⟨#[115]⟩ hx
  obtain ⟨a0, _, _⟩ := h.abx
  have hoy := h.oyb
  obtain ⟨i0, hi, hy0, hy1, hy2⟩ := info_parts ent_info3
  clear h hx
  go_enter Tryd.func60, Tryd.ntmps60
  go_wp2_with fail
  refine hA.mono ?_
  rintro e W ⟨⟨u, rfl⟩, h, hg1⟩
  have HM := Lib.hid (ymoves h hg1 hoy)
  have hb : B.base ≤ W.heap.size := Nat.le_trans hb hg1.size
  obtain ⟨arr, cur, A, cap, hwb, hyb, ha2, hbb, hc0, hsl, hbl⟩ := h.bufrow
  dsimp only at hc0 hsl
  have HF := Lib.hid (entcs_one s.buf)
  have HL := Lib.hid (range_getD (s.buf.flatMap entc) (s.buf.length * 2) (flat_len entc 2 (fun _ => rfl) s.buf))
  have hbl0 : (0 : Int) < (B.bl : Int) := by omega
  obtain ⟨n, hn⟩ : ∃ n, s.buf.length = n := ⟨_, rfl⟩
  have HC := Lib.hid (And.intro hwb.drew (And.intro hyb.drew (And.intro ha2 (And.intro hbb.drew hc0))))
  have HS := Lib.hid (fun W' (hW : Below W.drew.heap.size W.drew W') => (show Sl W.drew A (s.buf.length * 2) (fun i => (s.buf.flatMap entc).getD i undef) from hsl).below (Nat.le_refl _) hW)
  have hE := fun own1 (h1 : YInv B _ own1 W) W4 v4 (h2 : Below W.drew.heap.size W.drew W4) (h3 : W4.ownsRow W.drew.heap.size 96 2 v4 (n + 1) (s.buf.flatMap entc ++ entc ((a : Int), v))) => YInv.setBuf (s := { s with asks := s.asks ++ ⟨#[115]⟩ }) (l := s.buf ++ [((a : Int), v)]) h1 (W4 := W4) (v4 := v4) ⟨h2.os, h2.tape, h2.output, h2.size, h2.block⟩ (by rw [List.length_append, List.flatMap_append, hn]; simpa using own_base h3 hb) (fun g hg => own_ge h3 g hg)
  rw [hn] at hs HC HS HF HL
  have HE0 := Lib.hid hE
  clear h hwb hyb ha2 hbb hc0 hsl hn hE hA a0 hg1 hb
  go_wp2
  refine startG (fun W' => Below W.drew.heap.size W.drew W') 18 (by kernel_rfl) ?_
  have hH : Below W.drew.heap.size W.drew W.drew := Below.refl _ _
  generalize W.drew = W0 at HC HS HE0 hH ⊢
  refine takeG0 (i := 12) (v := .int .i64 (a : Int)) rfl (by kernel_rfl) (by kernel_rfl) (by kernel_rfl) (by kernel_rfl) (fun _ _ _ h => h) (Or.inl ⟨by rfl, fun W hW => by go_simp⟩) hH ?_
  simp only [Act.put, List.getElem_toArray, List.getElem_cons_zero, List.getElem_cons_succ, List.setIfInBounds_toArray, List.set_cons_zero, List.set_cons_succ]
  refine takeG0 (i := 13) (v := .int .u32 v) rfl (by kernel_rfl) (by kernel_rfl) (by kernel_rfl) (by kernel_rfl) (fun _ _ _ h => h) (Or.inl ⟨by rfl, fun W hW => by go_simp⟩) hH ?_
  simp only [Act.put, List.getElem_toArray, List.getElem_cons_zero, List.getElem_cons_succ, List.setIfInBounds_toArray, List.set_cons_zero, List.set_cons_succ]
  refine takeG0 (i := 14) (v := .agg #[.int .i64 (a : Int), .int .u32 v]) rfl (by kernel_rfl) (by kernel_rfl) (by kernel_rfl) (by kernel_rfl) (fun _ _ _ h => h) (Or.inl ⟨by rfl, fun W hW => by go_simp⟩) hH ?_
  simp only [Act.put, List.getElem_toArray, List.getElem_cons_zero, List.getElem_cons_succ, List.setIfInBounds_toArray, List.set_cons_zero, List.set_cons_succ]
  refine takeG (i := 0) (v := .pointer (some ⟨B.yb, 0, none⟩)) rfl (by kernel_rfl) (by kernel_rfl) (by kernel_rfl) (by kernel_rfl) (fun _ _ _ h => h) (Or.inl ⟨by rfl, fun W hW => by have q0 := ((HC.out.1.below hW HC.out.1.lt).cell 0).trans rfl; go_simp⟩) hH ?_
  simp only [Act.put, List.getElem_toArray, List.getElem_cons_zero, List.getElem_cons_succ, List.setIfInBounds_toArray, List.set_cons_zero, List.set_cons_succ]
  refine takeG0 (i := 1) (v := .pointer (some ⟨B.yb, 0, none⟩)) rfl (by kernel_rfl) (by kernel_rfl) (by kernel_rfl) (by kernel_rfl) (fun _ _ _ h => h) (Or.inl ⟨by rfl, fun W hW => by go_simp⟩) hH ?_
  simp only [Act.put, List.getElem_toArray, List.getElem_cons_zero, List.getElem_cons_succ, List.setIfInBounds_toArray, List.set_cons_zero, List.set_cons_succ]
  refine takeG0 (i := 2) (v := .pointer (some ⟨B.yb, 2, none⟩)) rfl (by kernel_rfl) (by kernel_rfl) (by kernel_rfl) (by kernel_rfl) (fun _ _ _ h => h) (Or.inl ⟨by rfl, fun W hW => by go_simp⟩) hH ?_
  simp only [Act.put, List.getElem_toArray, List.getElem_cons_zero, List.getElem_cons_succ, List.setIfInBounds_toArray, List.set_cons_zero, List.set_cons_succ]
  refine takeG (i := 3) (v := .slice (some ⟨B.bb, 0, none⟩) B.bl B.bcap) rfl (by kernel_rfl) (by kernel_rfl) (by kernel_rfl) (by kernel_rfl) (fun _ _ _ h => h) (Or.inl ⟨by rfl, fun W hW => by have q0 := ((HC.out.2.1.below hW HC.out.2.1.lt).cell 2).trans HC.out.2.2.1; go_simp⟩) hH ?_
  simp only [Act.put, List.getElem_toArray, List.getElem_cons_zero, List.getElem_cons_succ, List.setIfInBounds_toArray, List.set_cons_zero, List.set_cons_succ]
  refine takeG (i := 5) (v := .pointer (some ⟨B.yb, 0, none⟩)) rfl (by kernel_rfl) (by kernel_rfl) (by kernel_rfl) (by kernel_rfl) (fun _ _ _ h => h) (Or.inl ⟨by rfl, fun W hW => by have q0 := ((HC.out.1.below hW HC.out.1.lt).cell 0).trans rfl; go_simp⟩) hH ?_
  simp only [Act.put, List.getElem_toArray, List.getElem_cons_zero, List.getElem_cons_succ, List.setIfInBounds_toArray, List.set_cons_zero, List.set_cons_succ]
  refine takeG0 (i := 6) (v := .pointer (some ⟨B.yb, 0, none⟩)) rfl (by kernel_rfl) (by kernel_rfl) (by kernel_rfl) (by kernel_rfl) (fun _ _ _ h => h) (Or.inl ⟨by rfl, fun W hW => by go_simp⟩) hH ?_
  simp only [Act.put, List.getElem_toArray, List.getElem_cons_zero, List.getElem_cons_succ, List.setIfInBounds_toArray, List.set_cons_zero, List.set_cons_succ]
  refine takeG0 (i := 7) (v := .pointer (some ⟨B.yb, 2, none⟩)) rfl (by kernel_rfl) (by kernel_rfl) (by kernel_rfl) (by kernel_rfl) (fun _ _ _ h => h) (Or.inl ⟨by rfl, fun W hW => by go_simp⟩) hH ?_
  simp only [Act.put, List.getElem_toArray, List.getElem_cons_zero, List.getElem_cons_succ, List.setIfInBounds_toArray, List.set_cons_zero, List.set_cons_succ]
  refine takeG (i := 8) (v := .slice (some ⟨B.bb, 0, none⟩) B.bl B.bcap) rfl (by kernel_rfl) (by kernel_rfl) (by kernel_rfl) (by kernel_rfl) (fun _ _ _ h => h) (Or.inl ⟨by rfl, fun W hW => by have q0 := ((HC.out.2.1.below hW HC.out.2.1.lt).cell 2).trans HC.out.2.2.1; go_simp⟩) hH ?_
  simp only [Act.put, List.getElem_toArray, List.getElem_cons_zero, List.getElem_cons_succ, List.setIfInBounds_toArray, List.set_cons_zero, List.set_cons_succ]
  refine takeG0 (i := 9) (v := .pointer (some ⟨B.bb, 0, none⟩)) rfl (by kernel_rfl) (by kernel_rfl) (by kernel_rfl) (by kernel_rfl) (fun _ _ _ h => h) (Or.inl ⟨by rfl, fun W hW => by go_simp⟩) hH ?_
  simp only [Act.put, List.getElem_toArray, List.getElem_cons_zero, List.getElem_cons_succ, List.setIfInBounds_toArray, List.set_cons_zero, List.set_cons_succ]
  refine takeG (i := 10) (v := .slice A n cap) rfl (by kernel_rfl) (by kernel_rfl) (by kernel_rfl) (by kernel_rfl) (fun _ _ _ h => h) (Or.inl ⟨by rfl, fun W hW => by have q0 := ((HC.out.2.2.2.1.below hW HC.out.2.2.2.1.lt).cell 0).trans HC.out.2.2.2.2; go_simp⟩) hH ?_
  simp only [Act.put, List.getElem_toArray, List.getElem_cons_zero, List.getElem_cons_succ, List.setIfInBounds_toArray, List.set_cons_zero, List.set_cons_succ]
  refine manyG (rs := [4, 15]) (by kernel_rfl) (by simp) (AllG.cons (i := 4) rfl (fun K hK => ?_) (AllG.cons (i := 15) rfl (fun K hK => ?_) AllG.nil))
  · go_simp
    have own0 := yown_none W0 96 2
    have hA := hH.alloc hH.size (Obj.cells #[] 96)
    refine hK.out _ _ hA (fun _ => ?_)
    clear hK K
    try simp only [Act.put, List.getElem_toArray, List.getElem_cons_zero, List.getElem_cons_succ, List.setIfInBounds_toArray, List.set_cons_zero, List.set_cons_succ]
    refine manyG (rs := [11, 15]) (by kernel_rfl) (by simp) (AllG.cons (i := 11) rfl (fun K hK => ?_) (AllG.cons (i := 15) rfl (fun K hK => ?_) AllG.nil))
    · rw [if_pos (by rfl)]
      refine wp_append_sl _ (.tmp 12) (.tmp 18) 27 rfl W0.heap.size 96 i0 _ 2 16 Tryd.underlying27 hi hy0 hy1 hy2 rfl (by omega) _ 0 _ rfl own0 A n cap (fun i => (s.buf.flatMap entc).getD i undef) rfl (HS.out _ hA) HF.out (by unfold maxLen; omega) (by omega) hA.size ?_
      intro v1 Wa own2 hg1 _
      rw [HL.out, List.nil_append, Nat.zero_add] at own2
      have hA2 := below_own hA own0 hg1 (Nat.le_refl _) (Nat.le_refl _)
      refine hK.out _ _ hA2 (fun _ => ?_)
      clear hK K hg1
      try simp only [Act.put, List.getElem_toArray, List.getElem_cons_zero, List.getElem_cons_succ, List.setIfInBounds_toArray, List.set_cons_zero, List.set_cons_succ]
      refine onlyG (i := 15) (by kernel_rfl) rfl (fun K hK => ?_)
      go_simp
      have src := sl_new Wa 96 (entc ((a : Int), v))
      have hA3 := hA2.alloc hA2.size (Obj.cells #[.int .i64 (a : Int), .int .u32 v] 96)
      have own3 := own_below own2 (Nat.le_refl _) ((Below.refl Wa.heap.size Wa).alloc (Nat.le_refl _) (Obj.cells #[.int .i64 (a : Int), .int .u32 v] 96))
      refine hK.out _ _ hA3 (fun _ => ?_)
      clear hK K
      try simp only [Act.put, List.getElem_toArray, List.getElem_cons_zero, List.getElem_cons_succ, List.setIfInBounds_toArray, List.set_cons_zero, List.set_cons_succ]
      refine onlyG (i := 16) (by kernel_rfl) rfl (fun K hK => ?_)
      rw [if_pos (by rfl)]
      refine wp_append_sl _ (.tmp 19) (.tmp 23) 27 rfl W0.heap.size 96 i0 _ 2 16 Tryd.underlying27 hi hy0 hy1 hy2 rfl (by omega) _ n _ rfl own3 _ 1 _ (fun i => (entc ((a : Int), v)).getD i undef) rfl src (entc_one _) (by unfold maxLen; omega) (by omega) hA3.size ?_
      intro v4 W4 own9 hg9 _
      rw [range_getD (entc ((a : Int), v)) (1 * 2) rfl] at own9
      have hH9 := below_own hA3 own3 hg9 (Nat.le_refl _) (Nat.le_refl _)
      have y6 := ((HC.out.2.2.2.1.below hH9 HC.out.2.2.2.1.lt).cell 0).trans HC.out.2.2.2.2
      have f6 := (HC.out.2.2.2.1.below hH9 HC.out.2.2.2.1.lt).frozen 0
      have HE := Lib.hid (HM.out.bind (fun own1 h1 => HE0.out own1 h1 W4 v4 hH9 own9))
      obtain ⟨A9, c9, rfl, _, _⟩ := own_sl own9
      refine hK.out _ _ hH9 (fun _ => ?_)
      clear hK K hg9 own9
      try simp only [Act.put, List.getElem_toArray, List.getElem_cons_zero, List.getElem_cons_succ, List.setIfInBounds_toArray, List.set_cons_zero, List.set_cons_succ]
      refine takeG0 (i := 17) (v := .pointer (some ⟨B.bb, 0, none⟩)) rfl (by kernel_rfl) (by kernel_rfl) (by kernel_rfl) (by kernel_rfl) (fun _ _ _ h => h) (Or.inl ⟨by rfl, fun W hW => by go_simp⟩) hH9 ?_
      simp only [Act.put, List.getElem_toArray, List.getElem_cons_zero, List.getElem_cons_succ, List.setIfInBounds_toArray, List.set_cons_zero, List.set_cons_succ]
      refine lastG (by kernel_rfl) rfl (by kernel_rfl) (fun K hK => ?_)
      go_simp
      refine hK.out _ _ ?_
      clear hK K
      go_wp2
      go_end0
      exact ⟨⟨_, rfl⟩, HE.out⟩
    · go_simp
      have src := sl_new (W0.alloc (Obj.cells #[] 96)) 96 (entc ((a : Int), v))
      rw [show (W0.alloc (Obj.cells #[] 96)).heap.size = W0.heap.size + 1 by simp] at src
      have hA1 := hA.alloc hA.size (Obj.cells #[.int .i64 (a : Int), .int .u32 v] 96)
      have own1 := own_below own0 (Nat.le_refl _) ((Below.refl (W0.alloc (Obj.cells #[] 96)).heap.size (W0.alloc (Obj.cells #[] 96))).alloc (Nat.le_refl _) (Obj.cells #[.int .i64 (a : Int), .int .u32 v] 96))
      refine hK.out _ _ hA1 (fun _ => ?_)
      clear hK K
      try simp only [Act.put, List.getElem_toArray, List.getElem_cons_zero, List.getElem_cons_succ, List.setIfInBounds_toArray, List.set_cons_zero, List.set_cons_succ]
      refine onlyG (i := 11) (by kernel_rfl) rfl (fun K hK => ?_)
      rw [if_pos (by rfl)]
      refine wp_append_sl _ (.tmp 12) (.tmp 18) 27 rfl W0.heap.size 96 i0 _ 2 16 Tryd.underlying27 hi hy0 hy1 hy2 rfl (by omega) _ 0 _ rfl own1 A n cap (fun i => (s.buf.flatMap entc).getD i undef) rfl (HS.out _ hA1) HF.out (by unfold maxLen; omega) (by omega) hA1.size ?_
      intro v1 Wa own2 hg1 _
      rw [HL.out, List.nil_append, Nat.zero_add] at own2
      have hA2 := below_own hA1 own1 hg1 (Nat.le_refl _) (Nat.le_refl _)
      have src2 := src.grown hg1 (fun _ b o e => by injection e with e; injection e with e1 _; dsimp only; omega)
      refine hK.out _ _ hA2 (fun _ => ?_)
      clear hK K hg1
      try simp only [Act.put, List.getElem_toArray, List.getElem_cons_zero, List.getElem_cons_succ, List.setIfInBounds_toArray, List.set_cons_zero, List.set_cons_succ]
      refine onlyG (i := 16) (by kernel_rfl) rfl (fun K hK => ?_)
      rw [if_pos (by rfl)]
      refine wp_append_sl _ (.tmp 19) (.tmp 23) 27 rfl W0.heap.size 96 i0 _ 2 16 Tryd.underlying27 hi hy0 hy1 hy2 rfl (by omega) _ n _ rfl own2 _ 1 _ (fun i => (entc ((a : Int), v)).getD i undef) rfl src2 (entc_one _) (by unfold maxLen; omega) (by omega) hA2.size ?_
      intro v4 W4 own9 hg9 _
      rw [range_getD (entc ((a : Int), v)) (1 * 2) rfl] at own9
      have hH9 := below_own hA2 own2 hg9 (Nat.le_refl _) (Nat.le_refl _)
      have y6 := ((HC.out.2.2.2.1.below hH9 HC.out.2.2.2.1.lt).cell 0).trans HC.out.2.2.2.2
      have f6 := (HC.out.2.2.2.1.below hH9 HC.out.2.2.2.1.lt).frozen 0
      have HE := Lib.hid (HM.out.bind (fun own1 h1 => HE0.out own1 h1 W4 v4 hH9 own9))
      obtain ⟨A9, c9, rfl, _, _⟩ := own_sl own9
      refine hK.out _ _ hH9 (fun _ => ?_)
      clear hK K hg9 own9
      try simp only [Act.put, List.getElem_toArray, List.getElem_cons_zero, List.getElem_cons_succ, List.setIfInBounds_toArray, List.set_cons_zero, List.set_cons_succ]
      refine takeG0 (i := 17) (v := .pointer (some ⟨B.bb, 0, none⟩)) rfl (by kernel_rfl) (by kernel_rfl) (by kernel_rfl) (by kernel_rfl) (fun _ _ _ h => h) (Or.inl ⟨by rfl, fun W hW => by go_simp⟩) hH9 ?_
      simp only [Act.put, List.getElem_toArray, List.getElem_cons_zero, List.getElem_cons_succ, List.setIfInBounds_toArray, List.set_cons_zero, List.set_cons_succ]
      refine lastG (by kernel_rfl) rfl (by kernel_rfl) (fun K hK => ?_)
      go_simp
      refine hK.out _ _ ?_
      clear hK K
      go_wp2
      go_end0
      exact ⟨⟨_, rfl⟩, HE.out⟩
  · go_simp
    have src := sl_new W0 96 (entc ((a : Int), v))
    have hA := hH.alloc hH.size (Obj.cells #[.int .i64 (a : Int), .int .u32 v] 96)
    refine hK.out _ _ hA (fun _ => ?_)
    clear hK K
    try simp only [Act.put, List.getElem_toArray, List.getElem_cons_zero, List.getElem_cons_succ, List.setIfInBounds_toArray, List.set_cons_zero, List.set_cons_succ]
    refine onlyG (i := 4) (by kernel_rfl) rfl (fun K hK => ?_)
    go_simp
    have own0 := own_base (yown_none (W0.alloc (Obj.cells #[.int .i64 (a : Int), .int .u32 v] 96)) 96 2) hA.size
    rw [show (W0.alloc (Obj.cells #[.int .i64 (a : Int), .int .u32 v] 96)).heap.size = W0.heap.size + 1 by simp] at own0
    have hA1 := hA.alloc hA.size (Obj.cells #[] 96)
    have src1 := src.step ((Below.refl _ _).alloc (Nat.le_refl _) (Obj.cells #[] 96))
    refine hK.out _ _ hA1 (fun _ => ?_)
    clear hK K
    try simp only [Act.put, List.getElem_toArray, List.getElem_cons_zero, List.getElem_cons_succ, List.setIfInBounds_toArray, List.set_cons_zero, List.set_cons_succ]
    refine onlyG (i := 11) (by kernel_rfl) rfl (fun K hK => ?_)
    rw [if_pos (by rfl)]
    refine wp_append_sl _ (.tmp 12) (.tmp 18) 27 rfl W0.heap.size 96 i0 _ 2 16 Tryd.underlying27 hi hy0 hy1 hy2 rfl (by omega) _ 0 _ rfl own0 A n cap (fun i => (s.buf.flatMap entc).getD i undef) rfl (HS.out _ hA1) HF.out (by unfold maxLen; omega) (by omega) hA1.size ?_
    intro v1 Wa own2 hg1 _
    rw [HL.out, List.nil_append, Nat.zero_add] at own2
    have hA2 := below_own hA1 own0 hg1 (Nat.le_refl _) (Nat.le_refl _)
    have src2 := src1.grown hg1 (fun _ b o e => by injection e with e; injection e with e1 _; dsimp only; omega)
    refine hK.out _ _ hA2 (fun _ => ?_)
    clear hK K hg1
    try simp only [Act.put, List.getElem_toArray, List.getElem_cons_zero, List.getElem_cons_succ, List.setIfInBounds_toArray, List.set_cons_zero, List.set_cons_succ]
    refine onlyG (i := 16) (by kernel_rfl) rfl (fun K hK => ?_)
    rw [if_pos (by rfl)]
    refine wp_append_sl _ (.tmp 19) (.tmp 23) 27 rfl W0.heap.size 96 i0 _ 2 16 Tryd.underlying27 hi hy0 hy1 hy2 rfl (by omega) _ n _ rfl own2 _ 1 _ (fun i => (entc ((a : Int), v)).getD i undef) rfl src2 (entc_one _) (by unfold maxLen; omega) (by omega) hA2.size ?_
    intro v4 W4 own9 hg9 _
    rw [range_getD (entc ((a : Int), v)) (1 * 2) rfl] at own9
    have hH9 := below_own hA2 own2 hg9 (Nat.le_refl _) (Nat.le_refl _)
    have y6 := ((HC.out.2.2.2.1.below hH9 HC.out.2.2.2.1.lt).cell 0).trans HC.out.2.2.2.2
    have f6 := (HC.out.2.2.2.1.below hH9 HC.out.2.2.2.1.lt).frozen 0
    have HE := Lib.hid (HM.out.bind (fun own1 h1 => HE0.out own1 h1 W4 v4 hH9 own9))
    obtain ⟨A9, c9, rfl, _, _⟩ := own_sl own9
    refine hK.out _ _ hH9 (fun _ => ?_)
    clear hK K hg9 own9
    try simp only [Act.put, List.getElem_toArray, List.getElem_cons_zero, List.getElem_cons_succ, List.setIfInBounds_toArray, List.set_cons_zero, List.set_cons_succ]
    refine takeG0 (i := 17) (v := .pointer (some ⟨B.bb, 0, none⟩)) rfl (by kernel_rfl) (by kernel_rfl) (by kernel_rfl) (by kernel_rfl) (fun _ _ _ h => h) (Or.inl ⟨by rfl, fun W hW => by go_simp⟩) hH9 ?_
    simp only [Act.put, List.getElem_toArray, List.getElem_cons_zero, List.getElem_cons_succ, List.setIfInBounds_toArray, List.set_cons_zero, List.set_cons_succ]
    refine lastG (by kernel_rfl) rfl (by kernel_rfl) (fun K hK => ?_)
    go_simp
    refine hK.out _ _ ?_
    clear hK K
    go_wp2
    go_end0
    exact ⟨⟨_, rfl⟩, HE.out⟩
end Go.Proofs.YtjmnogpnjombgaaDoor
