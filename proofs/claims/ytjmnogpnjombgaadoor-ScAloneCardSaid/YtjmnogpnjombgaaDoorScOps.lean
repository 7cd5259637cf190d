/- sc.Machine: its functions as a port's: load, store, swap, always, nothing, sleep, wake, note. -/
import Derived.Test.YtjmnogpnjombgaaDoorMPlain
import Derived.Test.YtjmnogpnjombgaaDoorMGen
namespace Go.Proofs.YtjmnogpnjombgaaDoor
open Go.ChangeShapes Go.WideShapes Go.ChangeAt Go.RowKit Go.Deep
set_option linter.unusedVariables false
set_option maxRecDepth 100000
set_option linter.unusedSimpArgs false

set_option maxHeartbeats 1000000 in
theorem sload_any (B : MB) (s : Mst) (own : Nat → Prop) (W : World) (h : MInv scL B s own W) (a : Nat) (ha : a < B.m) :
    Calls Tryd.prog 75 #[.pointer (some ⟨B.mb, 0, none⟩), .int .i64 (a : Int)] W fun e W' => e = .returned (.int .u32 (s.mem.getD a 0)) ∧ W' = W := by
  obtain ⟨V, bcs, h⟩ := h
  obtain ⟨g, cap, e3, hc, hcm, q, f, hne, hog, hput⟩ := h.memAt ha
  have c2 : W.cell? ⟨B.mb, 2, none⟩ = some (.slice (some ⟨g, 0, none⟩) B.m cap) := by rw [← e3]; exact h.cell (j := 3) (by decide) rfl
  have ha0 : (0 : Int) ≤ (a : Int) := by omega
  have ha1 : (a : Int) < (B.m : Int) := by omega
  clear h e3 hc hcm hput hne hog
  go_enter Tryd.func75, Tryd.ntmps75
  go_wp2
  go_ret
  exact ⟨rfl, rfl⟩

set_option maxHeartbeats 1000000 in
theorem sstore_any (B : MB) (s : Mst) (own : Nat → Prop) (W : World) (h : MInv scL B s own W) (a : Nat) (ha : a < B.m) (v : Int) :
    Calls Tryd.prog 77 #[.pointer (some ⟨B.mb, 0, none⟩), .int .i64 (a : Int), .int .u32 v] W fun e W' => (∃ u, e = .returned u) ∧ Moves (MInv scL B) { s with mem := s.mem.set a v } own W W' := by
  obtain ⟨V, bcs, h⟩ := h
  obtain ⟨g, cap, e3, hc, hcm, q, f, hne, hog, hput⟩ := h.memAt ha
  have c2 : W.cell? ⟨B.mb, 2, none⟩ = some (.slice (some ⟨g, 0, none⟩) B.m cap) := by rw [← e3]; exact h.cell (j := 3) (by decide) rfl
  have ha0 : (0 : Int) ≤ (a : Int) := by omega
  have ha1 : (a : Int) < (B.m : Int) := by omega
  have HP := Lib.hid (hput v)
  clear h e3 hc hcm hput
  go_enter Tryd.func77, Tryd.ntmps77
  go_wp2
  go_end0
  exact ⟨⟨_, rfl⟩, HP.out⟩

set_option maxHeartbeats 1000000 in
theorem sswap_any (B : MB) (s : Mst) (own : Nat → Prop) (W : World) (h : MInv scL B s own W) (a : Nat) (ha : a < B.m) (v : Int) :
    Calls Tryd.prog 79 #[.pointer (some ⟨B.mb, 0, none⟩), .int .i64 (a : Int), .int .u32 v] W fun e W' => (∃ u, e = .returned u) ∧ Moves (MInv scL B) { s with mem := s.mem.set a v } own W W' := by
  obtain ⟨V, bcs, h⟩ := h
  obtain ⟨g, cap, e3, hc, hcm, q, f, hne, hog, hput⟩ := h.memAt ha
  have c2 : W.cell? ⟨B.mb, 2, none⟩ = some (.slice (some ⟨g, 0, none⟩) B.m cap) := by rw [← e3]; exact h.cell (j := 3) (by decide) rfl
  have ha0 : (0 : Int) ≤ (a : Int) := by omega
  have ha1 : (a : Int) < (B.m : Int) := by omega
  have HP := Lib.hid (hput v)
  clear h e3 hc hcm hput
  go_enter Tryd.func79, Tryd.ntmps79
  go_wp2
  go_ret
  exact ⟨⟨_, rfl⟩, HP.out⟩

theorem salways_any (W : World) : Calls Tryd.prog 76 #[] W fun e W' => e = .returned (.bool true) ∧ W' = W := by
  go_enter Tryd.func76, Tryd.ntmps76
  go_wp2
  go_ret
  exact ⟨rfl, rfl⟩
theorem snothing_any (W : World) : Calls Tryd.prog 78 #[] W fun e W' => (∃ u, e = .returned u) ∧ W' = W := by
  go_enter Tryd.func78, Tryd.ntmps78
  go_wp2
  go_end0
  exact ⟨⟨_, rfl⟩, rfl⟩

set_option maxHeartbeats 1000000 in
theorem ssleep_any (B : MB) (s : Mst) (own : Nat → Prop) (W : World) (h : MInv scL B s own W) (hm : s.slp.length ≤ 10000) (a : Nat) :
    Calls Tryd.prog 80 #[.pointer (some ⟨B.mb, 0, none⟩), .int .i64 (a : Int)] W fun e W' => (∃ u, e = .returned u) ∧ Moves (MInv scL B) (sleepM s.who s a) own W W' := by
  obtain ⟨V, bcs, h⟩ := h
  have c5 : W.cell? ⟨B.mb, 5, none⟩ = some (.int .i64 s.who) := (h.blk.cell 5).trans rfl
  have HK := Lib.hid ((h.below (below_drew W)).sleeps rfl hm s.who a)
  clear h hm
  go_enter Tryd.func80, Tryd.ntmps80
  go_wp2
  go_still_tail 8, (by kernel_rfl)
  change wpList _ _ _ _ _ W.drew
  have hK : Calls Tryd.prog 111 #[.pointer (some ⟨B.mb, 3, none⟩), .int .i64 s.who, .int .i64 (a : Int)] W.drew _ := HK.out
  go_wp2_with fail
  refine hK.mono ?_
  rintro e W2 ⟨⟨u, rfl⟩, hm⟩
  have HM := Lib.hid hm
  clear hK hm HK c5
  go_wp2
  go_end0
  exact ⟨⟨_, rfl⟩, HM.out.pre (below_drew W)⟩

set_option maxHeartbeats 2000000 in
theorem swake_any (B : MB) (s : Mst) (own : Nat → Prop) (W : World) (h : MInv scL B s own W) (hm : s.slp.length ≤ 10000) (hwho : ∀ x ∈ s.slp, 0 ≤ x.1 ∧ x.1 < (s.ths.length : Int)) (a n : Nat) (hn : n ≤ 4294967295) :
    Calls Tryd.prog 81 #[.pointer (some ⟨B.mb, 0, none⟩), .int .i64 (a : Int), .int .u32 (n : Int)] W fun e W' => e = .returned (.int .u32 (wakeM s a (n : Int)).1) ∧ Moves (MInv scL B) (wakeM s a (n : Int)).2 own W W' := by
  obtain ⟨V, bcs, h⟩ := h
  have hK : Calls Tryd.prog 112 #[.pointer (some ⟨B.mb, 3, none⟩), .int .i64 (a : Int), .int .u32 (n : Int)] W _ := h.wakes rfl hm a n hn
  have hsub := (wk_sub (a : Int) n s.slp).2
  have hwl := wk_len (a : Int) n s.slp
  unfold wakeM
  rw [Int.toNat_natCast]
  obtain ⟨l, hl⟩ : ∃ l, (wk (a : Int) n s.slp).2 = l := ⟨_, rfl⟩
  obtain ⟨r, hr⟩ : ∃ r, (wk (a : Int) n s.slp).1 = r := ⟨_, rfl⟩
  rw [hl, hr] at hK hwl
  rw [hl] at hsub
  rw [hl, hr]
  have hin : ∀ k, k < l.length → 0 ≤ l.getD k 0 ∧ l.getD k 0 < (s.ths.length : Int) := fun k hk => by
    obtain ⟨x, h1, h2⟩ := hsub (l.getD k 0) (getD_mem hk)
    rw [← h2]; exact hwho x h1
  have hlen : l.length ≤ 10000 := by omega
  have HIN := Lib.hid hin
  clear hl hr hsub hwl hm hwho h hin
  go_enter Tryd.func81, Tryd.ntmps81
  go_wp2_with fail
  refine hK.mono ?_
  rintro e W1 ⟨ov, rfl, hrow, hM⟩
  obtain ⟨oA, oc, rfl, hoc, hsl⟩ := own_sl hrow
  obtain ⟨m, hml⟩ : ∃ m, l.length = m := ⟨_, rfl⟩
  have HML := Lib.hid hml
  have HM := Lib.hid hM
  rw [hml] at hrow hlen ⊢
  clear hK hM hsl hoc hml
  have HR := Lib.hid hrow
  clear hrow
  go_wp2_with fail
  go_loopw [18] (fun i wr => ∃ k : Nat, k ≤ m ∧ i = .int .i64 (k : Int) ∧ Moves (MInv scL B) { s with slp := r, ths := runT s.ths (l.take k) } own W wr ∧ wr.ownsRow W.heap.size 3 1 (.slice oA m oc) m (l.map (Value.int .i64))) (fun i _ => m - (intOf i).toNat)
  case atStart => exact ⟨0, Nat.zero_le _, rfl, HM.out, HR.out⟩
  case round =>
    obtain ⟨k, hk, rfl, hM, hrow⟩ := hrel
    by_cases hkm : k < m
    · obtain ⟨own1, ⟨V1, bcs1, h1⟩, ho1, hk1⟩ := hM
      obtain ⟨w, hw⟩ : ∃ w : Nat, l.getD k 0 = (w : Int) := ⟨(l.getD k 0).toNat, by have := HIN.out k (by rw [HML.out]; exact hkm); omega⟩
      have hwt : w < (runT s.ths (l.take k)).length := by rw [runT_len]; have := HIN.out k (by rw [HML.out]; exact hkm); omega
      obtain ⟨g, cap, e1, hc, hcm, hra, hth, hne, hog, ⟨cur, hB⟩, _, hput⟩ := h1.thAt hwt
      have c1 : wr.cell? ⟨B.mb, 1, none⟩ = some (.slice (some ⟨g, 0, none⟩) (runT s.ths (l.take k)).length cap) := by rw [← e1]; exact h1.cell (j := 1) (by decide) rfl
      have q9 := hra 9 _ rfl
      have f9 := (hth 9 (by decide)).2
      obtain ⟨A2, c2, e2, _, hs2⟩ := own_sl hrow
      injection e2 with e2 _ e3
      subst e2 e3
      obtain ⟨b, off, rfl, _, hcc⟩ := hs2 (by omega)
      have x0 := hcc k (by omega)
      dsimp only at x0
      rw [show (l.map (Value.int .i64)).getD k undef = .int .i64 (w : Int) by rw [← hw]; simp [List.getD_eq_getElem?_getD, List.getElem?_eq_getElem (show k < l.length by rw [HML.out]; exact hkm)]] at x0
      have hw0 : (0 : Int) ≤ (w : Int) := by omega
      have hw1 : (w : Int) < ((runT s.ths (l.take k)).length : Int) := by omega
      have hk0 : (0 : Int) ≤ (k : Int) := by omega
      have hk2 : (k : Int) < (m : Int) := by omega
      have hs := runT_take s.ths l k (by rw [HML.out]; exact hkm)
      rw [hw, Int.toNat_natCast] at hs
      have HF := Lib.hid (And.intro (Moves.after ho1 hk1 (hput 0)) (And.intro (row_grown hrow (set_only (j := w * 10 + 9) (.int .i64 0)) (row_ne hB hrow (by decide))) hs))
      generalize (runT s.ths (l.take k)).length = nt at *
      clear h1 ho1 hk1 hra hth hne hog hB hput hrow hcc hs e1 hwt hw hs2
      go_wp2
      go_roundw
      case rel =>
        refine ⟨k + 1, by omega, by go_num, ?_, HF.out.2.1⟩
        rw [HF.out.2.2]
        exact HF.out.1
      case measure => simp [intOf]; omega
    · obtain rfl : m = k := by omega
      have hk2 : ¬ (m : Int) < (m : Int) := by omega
      have HF := Lib.hid hM
      clear hM hrow
      go_wp2
      go_ret
      refine ⟨by rw [HML.out]; rfl, ?_⟩
      have := HF.out
      rwa [List.take_of_length_le (by rw [HML.out]; exact Nat.le_refl _)] at this

set_option maxHeartbeats 2000000 in
theorem snote_any (B : MB) (s : Mst) (own : Nat → Prop) (W : World) (h : MInv scL B s own W) (hx : s.evs.length + 1 ≤ 1000000000) (x : Evt) :
    Calls Tryd.prog 82 #[.pointer (some ⟨B.mb, 0, none⟩), .agg #[.int .i64 x.kind, .int .i64 x.who, .int .i64 x.pc, .int .i64 x.addr, .int .u32 x.value, .int .u32 x.old, .int .u32 x.k, .bool x.ok]] W fun e W' => (∃ u, e = .returned u) ∧ Moves (MInv scL B) (noteM s.who s x) own W W' := by
  obtain ⟨V, bcs, h⟩ := h
  obtain ⟨i0, hi, hy0, hy1, hy2⟩ := info_parts evt_info3
  have hal := (Below.refl W.heap.size W).alloc (Nat.le_refl _) (.cells (evArr x) 86)
  have c5 : (W.alloc (.cells (evArr x) 86)).cell? ⟨B.mb, 5, none⟩ = some (.int .i64 s.who) := ((h.below hal).blk.cell 5).trans rfl
  have hal2 := (Below.refl W.heap.size W).alloc (Nat.le_refl _) (.cells (evArr { x with who := s.who }) 86)
  have hr : W.ownsRow 0 86 8 (V 5) s.evs.length (s.evs.flatMap Evt.cells) := h.rows 5 (by decide)
  obtain ⟨A, cap, e5, hcc, hcm⟩ := own_cap hr
  obtain ⟨n, hn⟩ : ∃ n, s.evs.length = n := ⟨_, rfl⟩
  have hq5 : V 5 = .slice A n cap := by rw [e5, hn]
  have HE0 := Lib.hid (fun W4 v4 (h1 : W.grownBy W4 (Value.slice A n cap).ownBlock) (h2 : W4.ownsRow 0 86 8 v4 (n + 1) (s.evs.flatMap Evt.cells ++ ({ x with who := s.who } : Evt).cells)) h3 => h.evAdd rfl { x with who := s.who } (by rw [hq5]; exact h1) (by rw [hn]; exact h2) (by rw [hq5]; exact h3))
  have hlb : ∀ g, (Value.slice A n cap).ownBlock = some g → g < W.heap.size := fun g hg => (own_in hr g (by rw [hq5]; exact hg)).2
  have hny : some B.mb ≠ (Value.slice A n cap).ownBlock := by rw [← hq5]; exact row_ne h.blk hr (scL.ne 5 (by decide))
  have HX := Lib.hid (And.intro (Blk.new W 86 (evArr { x with who := s.who })).drew (show some W.heap.size ≠ (Value.slice A n cap).ownBlock from fun e => Nat.lt_irrefl _ (hlb _ e.symm)))
  have HG := Lib.hid (show W.grownBy (W.alloc (.cells (evArr { x with who := s.who }) 86)).drew (Value.slice A n cap).ownBlock from ⟨rfl, rfl, rfl, hal2.size, fun i hi _ => hal2.block i hi⟩)
  have HR := Lib.hid (show (W.alloc (.cells (evArr { x with who := s.who }) 86)).drew.ownsRow 0 86 8 (.slice A n cap) n (s.evs.flatMap Evt.cells) from by rw [← hq5, ← hn]; exact (own_below hr (Nat.le_refl _) hal2).drew)
  have HC := Lib.hid (And.intro (Blk.below h.blk hal2 h.blk.lt).drew (And.intro (show (scL.arr V s.who)[4]? = some (.slice A n cap) from by rw [← hq5]; rfl) hny))
  rw [hn] at hx
  clear h hr e5 hcc hcm hq5 hn hny hlb hal hal2
  unfold evArr at c5 HX HG HR HC
  dsimp only at HX HG HR HC
  go_enter Tryd.func82, Tryd.ntmps82
  go_wp2
  clear c5
  refine startG (fun W' => (W.alloc (.cells #[.int .i64 x.kind, .int .i64 s.who, .int .i64 x.pc, .int .i64 x.addr, .int .u32 x.value, .int .u32 x.old, .int .u32 x.k, .bool x.ok] 86)).drew.grownBy W' (Value.slice A n cap).ownBlock) 10 (by kernel_rfl) ?_
  obtain ⟨xb, hxb⟩ : ∃ xb, W.heap.size = xb := ⟨_, rfl⟩
  rw [hxb] at HX
  try rw [hxb]
  generalize (W.alloc (.cells #[.int .i64 x.kind, .int .i64 s.who, .int .i64 x.pc, .int .i64 x.addr, .int .u32 x.value, .int .u32 x.old, .int .u32 x.k, .bool x.ok] 86)).drew = W2 at HX HG HR HC ⊢
  have hg0 : W2.grownBy W2 (Value.slice A n cap).ownBlock := World.grownBy.refl _ _
  refine takeG0 (i := 0) (v := .pointer (some ⟨B.mb, 0, none⟩)) rfl (by kernel_rfl) (by kernel_rfl) (by kernel_rfl) (by kernel_rfl) (fun _ _ _ h => h) (Or.inl ⟨by rfl, fun W hW => by go_simp⟩) hg0 ?_
  simp only [Act.put, List.getElem_toArray, List.getElem_cons_zero, List.getElem_cons_succ, List.setIfInBounds_toArray, List.set_cons_zero, List.set_cons_succ]
  refine takeG0 (i := 1) (v := .pointer (some ⟨B.mb, 0, none⟩)) rfl (by kernel_rfl) (by kernel_rfl) (by kernel_rfl) (by kernel_rfl) (fun _ _ _ h => h) (Or.inl ⟨by rfl, fun W hW => by go_simp⟩) hg0 ?_
  simp only [Act.put, List.getElem_toArray, List.getElem_cons_zero, List.getElem_cons_succ, List.setIfInBounds_toArray, List.set_cons_zero, List.set_cons_succ]
  refine takeG0 (i := 2) (v := .pointer (some ⟨B.mb, 0, none⟩)) rfl (by kernel_rfl) (by kernel_rfl) (by kernel_rfl) (by kernel_rfl) (fun _ _ _ h => h) (Or.inl ⟨by rfl, fun W hW => by go_simp⟩) hg0 ?_
  simp only [Act.put, List.getElem_toArray, List.getElem_cons_zero, List.getElem_cons_succ, List.setIfInBounds_toArray, List.set_cons_zero, List.set_cons_succ]
  refine takeG0 (i := 3) (v := .pointer (some ⟨B.mb, 4, none⟩)) rfl (by kernel_rfl) (by kernel_rfl) (by kernel_rfl) (by kernel_rfl) (fun _ _ _ h => h) (Or.inl ⟨by rfl, fun W hW => by go_simp⟩) hg0 ?_
  simp only [Act.put, List.getElem_toArray, List.getElem_cons_zero, List.getElem_cons_succ, List.setIfInBounds_toArray, List.set_cons_zero, List.set_cons_succ]
  refine takeG (i := 4) (v := .slice A n cap) rfl (by kernel_rfl) (by kernel_rfl) (by kernel_rfl) (by kernel_rfl) (fun _ _ _ h => h) (Or.inl ⟨by rfl, fun W hW => by have q0 := ((HC.out.1.grown hW HC.out.2.2).cell 4).trans HC.out.2.1; go_simp⟩) hg0 ?_
  simp only [Act.put, List.getElem_toArray, List.getElem_cons_zero, List.getElem_cons_succ, List.setIfInBounds_toArray, List.set_cons_zero, List.set_cons_succ]
  refine takeG (i := 5) (v := .agg (evArr { x with who := s.who })) rfl (by kernel_rfl) (by kernel_rfl) (by kernel_rfl) (by kernel_rfl) (fun _ _ _ h => h) (yields_row (by rfl) 86 (.tmp 3) rfl xb rfl (evArr { x with who := s.who }) (fun _ hS => run_row _ _ _ _ _ _ (HX.out.1.grown hS HX.out.2) Tryd.underlying86 rfl evt_info)) hg0 ?_
  simp only [Act.put, List.getElem_toArray, List.getElem_cons_zero, List.getElem_cons_succ, List.setIfInBounds_toArray, List.set_cons_zero, List.set_cons_succ]
  unfold evArr
  refine onlyG (i := 6) (by kernel_rfl) rfl (fun K hK => ?_)
  go_simp
  have hA : W2.grownBy (W2.alloc (.cells #[.int .i64 x.kind, .int .i64 s.who, .int .i64 x.pc, .int .i64 x.addr, .int .u32 x.value, .int .u32 x.old, .int .u32 x.k, .bool x.ok] 86)) (Value.slice A n cap).ownBlock := grown_alloc (World.grownBy.refl _ _) _
  have own2 := own_below HR.out (Nat.le_refl _) ((Below.refl W2.heap.size W2).alloc (Nat.le_refl _) (.cells #[.int .i64 x.kind, .int .i64 s.who, .int .i64 x.pc, .int .i64 x.addr, .int .u32 x.value, .int .u32 x.old, .int .u32 x.k, .bool x.ok] 86))
  have src := sl_new W2 86 ({ x with who := s.who } : Evt).cells
  refine hK.out _ _ hA (fun _ => ?_)
  clear hK K
  try simp only [Act.put, List.getElem_toArray, List.getElem_cons_zero, List.getElem_cons_succ, List.setIfInBounds_toArray, List.set_cons_zero, List.set_cons_succ]
  refine onlyG (i := 7) (by kernel_rfl) rfl (fun K hK => ?_)
  rw [if_pos (by rfl)]
  refine wp_append_sl _ (.tmp 13) (.tmp 15) 38 rfl 0 86 i0 _ 8 48 Tryd.underlying38 hi hy0 hy1 hy2 rfl (by omega) _ n _ rfl own2 _ 1 _ (fun i => ({ x with who := s.who } : Evt).cells.getD i undef) rfl src (evt_one _) (by unfold maxLen; omega) (by omega) (Nat.zero_le _) ?_
  intro v4 W4 own4 hg4 hv4
  rw [range_getD ({ x with who := s.who } : Evt).cells (1 * 8) rfl] at own4
  have hg4' := grown_trans' hA hg4
  have hv5 : v4.ownBlock = (Value.slice A n cap).ownBlock ∨ ∃ g, v4.ownBlock = some g ∧ W.heap.size ≤ g := hv4.imp id (fun e => ⟨_, e, Nat.le_trans HG.out.size hA.size⟩)
  obtain ⟨A4, cap4, rfl, _, _⟩ := own_sl own4
  have y6 := ((HC.out.1.grown hg4' HC.out.2.2).cell 4).trans HC.out.2.1
  have f6 := (HC.out.1.grown hg4' HC.out.2.2).frozen 4
  refine hK.out _ _ hg4' (fun _ => ?_)
  clear hK K hg4 hv4 own2 src hA
  try simp only [Act.put, List.getElem_toArray, List.getElem_cons_zero, List.getElem_cons_succ, List.setIfInBounds_toArray, List.set_cons_zero, List.set_cons_succ]
  refine takeG0 (i := 8) (v := .pointer (some ⟨B.mb, 0, none⟩)) rfl (by kernel_rfl) (by kernel_rfl) (by kernel_rfl) (by kernel_rfl) (fun _ _ _ h => h) (Or.inl ⟨by rfl, fun W hW => by go_simp⟩) hg4' ?_
  simp only [Act.put, List.getElem_toArray, List.getElem_cons_zero, List.getElem_cons_succ, List.setIfInBounds_toArray, List.set_cons_zero, List.set_cons_succ]
  refine takeG0 (i := 9) (v := .pointer (some ⟨B.mb, 4, none⟩)) rfl (by kernel_rfl) (by kernel_rfl) (by kernel_rfl) (by kernel_rfl) (fun _ _ _ h => h) (Or.inl ⟨by rfl, fun W hW => by go_simp⟩) hg4' ?_
  simp only [Act.put, List.getElem_toArray, List.getElem_cons_zero, List.getElem_cons_succ, List.setIfInBounds_toArray, List.set_cons_zero, List.set_cons_succ]
  refine lastG (by kernel_rfl) rfl (by kernel_rfl) (fun K hK => ?_)
  go_simp
  refine hK.out _ _ ?_
  clear hK K
  have HE := Lib.hid (HE0.out _ _ (grown_trans' HG.out hg4') own4 hv5)
  clear own4 hv5 hg4' y6 f6
  go_wp2
  go_end0
  exact ⟨⟨_, rfl⟩, HE.out⟩
end Go.Proofs.YtjmnogpnjombgaaDoor
