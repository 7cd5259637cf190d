/- slices.Clone of rows that came in or are owned; a machine in the making. -/
import Derived.Test.YtjmnogpnjombgaaDoorMBox
import Derived.Laws.MakeOwn
namespace Go.Proofs.YtjmnogpnjombgaaDoor
open Go.ChangeShapes Go.WideShapes Go.ChangeAt Go.RowKit Go.Deep
set_option linter.unusedVariables false
set_option maxRecDepth 100000
set_option linter.unusedSimpArgs false

theorem own_zero (w : World) (t : TypeId) (size : Nat) : (w.alloc (.cells #[] t)).ownsRow w.heap.size t size (.slice (some ⟨w.heap.size, 0, none⟩) 0 0) 0 [] :=
  ⟨by simp, .inr ⟨_, 0, #[], rfl, Nat.le_refl _, heap_alloc_new w _, Nat.le_refl _, Nat.zero_le _, by simp, by simp⟩⟩

theorem words_info5 : (Tryd.prog.info? 22).map (fun i => (i.zero, i.size, i.bytes)) = some (some (.int .u32 0), 1, 4) := by kernel_rfl
set_option maxHeartbeats 1000000 in
theorem clone_words (A : Option Addr) (n cap : Nat) (C : Nat → Value) (w : World) (hA : A = none → n = 0) (hs : Sl w A (n * 1) C) (h1 : ∀ k, k < n * 1 → (C k).oneCell' = true) (hn : n ≤ 2000000000) :
    Calls Tryd.prog 72 #[.slice A n cap] w fun e w' => ∃ v, e = .returned v ∧ w'.ownsRow w.heap.size 22 1 v n ((List.range (n * 1)).map C) ∧ Below w.heap.size w w' := by
  have hq := fun w a n c => Lib.run_eql_slice_nil (P := Tryd.prog) w 28 22 a n c 0 0 Tryd.underlying28
  cases A with
  | none =>
    obtain rfl := hA rfl
    clear hA hs h1
    go_enter Tryd.func72, Tryd.ntmps72
    go_wp2
    go_ret
    exact ⟨_, rfl, ⟨by simp, .inl ⟨rfl, rfl⟩⟩, Below.refl _ _⟩
  | some a =>
    clear hA
    have hal := (Below.refl w.heap.size w).alloc (Nat.le_refl _) (.cells #[] 22)
    have hs2 := hs.step hal
    have hown := own_zero w 22 1
    obtain ⟨i0, hi, hy0, hy1, hy2⟩ := info_parts words_info5
    clear hs
    go_enter Tryd.func72, Tryd.ntmps72
    go_wp2_with (at_builtin; refine wpList_append_sl _ rfl (.tmp 5) (.tmp 6) 28 rfl w.heap.size 22 i0 _ 1 4 Tryd.underlying28 hi hy0 hy1 hy2 rfl (by omega) _ 0 _ rfl hown _ n _ C rfl hs2 h1 (by unfold maxLen; omega) (by omega) hal.size ?_; intro v' w5 hown5 hg5 _; have hB5 := below_own hal hown hg5 (Nat.le_refl _) (Nat.le_refl _))
    rw [Nat.zero_add, List.nil_append] at hown5
    go_ret
    exact ⟨_, rfl, hown5, hB5⟩
/-- Of an owned row. -/
theorem clone_words_own (v : Value) (n base : Nat) (xs : List Value) (w : World) (h : w.ownsRow base 22 1 v n xs) (h1 : ∀ x ∈ xs, x.oneCell' = true) (hn : n ≤ 2000000000) :
    Calls Tryd.prog 72 #[v] w fun e w' => ∃ v', e = .returned v' ∧ w'.ownsRow w.heap.size 22 1 v' n xs ∧ Below w.heap.size w w' := by
  obtain ⟨A, cap, rfl, _, hs⟩ := own_sl h
  have hl : xs.length = n * 1 := h.1
  refine (clone_words A n cap _ w (fun e => ?_) hs (fun k hk => ?_) hn).mono fun e w' ⟨v', he, hr, hb⟩ => ⟨v', he, ?_, hb⟩
  · rcases h.2 with ⟨h2, h3⟩ | ⟨g, c, cur, h2, _⟩
    · exact h3
    · injection h2 with h2 _ _
      rw [e] at h2
      cases h2
  · refine h1 _ ?_
    rw [List.getD_eq_getElem?_getD, List.getElem?_eq_getElem (by omega)]
    exact List.getElem_mem _
  · rw [range_getD xs (n * 1) hl] at hr
    exact hr

theorem instrs_info5 : (Tryd.prog.info? 54).map (fun i => (i.zero, i.size, i.bytes)) = some (some (.agg #[.int .i64 0, .int .i64 0, .int .i64 0, .int .i64 0, .int .u32 0]), 5, 40) := by kernel_rfl
set_option maxHeartbeats 1000000 in
theorem clone_instrs (A : Option Addr) (n cap : Nat) (C : Nat → Value) (w : World) (hA : A = none → n = 0) (hs : Sl w A (n * 5) C) (h1 : ∀ k, k < n * 5 → (C k).oneCell' = true) (hn : n ≤ 2000000000) :
    Calls Tryd.prog 73 #[.slice A n cap] w fun e w' => ∃ v, e = .returned v ∧ w'.ownsRow w.heap.size 54 5 v n ((List.range (n * 5)).map C) ∧ Below w.heap.size w w' := by
  have hq := fun w a n c => Lib.run_eql_slice_nil (P := Tryd.prog) w 26 54 a n c 0 0 Tryd.underlying26
  cases A with
  | none =>
    obtain rfl := hA rfl
    clear hA hs h1
    go_enter Tryd.func73, Tryd.ntmps73
    go_wp2
    go_ret
    exact ⟨_, rfl, ⟨by simp, .inl ⟨rfl, rfl⟩⟩, Below.refl _ _⟩
  | some a =>
    clear hA
    have hal := (Below.refl w.heap.size w).alloc (Nat.le_refl _) (.cells #[] 54)
    have hs2 := hs.step hal
    have hown := own_zero w 54 5
    obtain ⟨i0, hi, hy0, hy1, hy2⟩ := info_parts instrs_info5
    clear hs
    go_enter Tryd.func73, Tryd.ntmps73
    go_wp2_with (at_builtin; refine wpList_append_sl _ rfl (.tmp 5) (.tmp 6) 26 rfl w.heap.size 54 i0 _ 5 40 Tryd.underlying26 hi hy0 hy1 hy2 rfl (by omega) _ 0 _ rfl hown _ n _ C rfl hs2 h1 (by unfold maxLen; omega) (by omega) hal.size ?_; intro v' w5 hown5 hg5 _; have hB5 := below_own hal hown hg5 (Nat.le_refl _) (Nat.le_refl _))
    rw [Nat.zero_add, List.nil_append] at hown5
    go_ret
    exact ⟨_, rfl, hown5, hB5⟩
/-- Of an owned row. -/
theorem clone_instrs_own (v : Value) (n base : Nat) (xs : List Value) (w : World) (h : w.ownsRow base 54 5 v n xs) (h1 : ∀ x ∈ xs, x.oneCell' = true) (hn : n ≤ 2000000000) :
    Calls Tryd.prog 73 #[v] w fun e w' => ∃ v', e = .returned v' ∧ w'.ownsRow w.heap.size 54 5 v' n xs ∧ Below w.heap.size w w' := by
  obtain ⟨A, cap, rfl, _, hs⟩ := own_sl h
  have hl : xs.length = n * 5 := h.1
  refine (clone_instrs A n cap _ w (fun e => ?_) hs (fun k hk => ?_) hn).mono fun e w' ⟨v', he, hr, hb⟩ => ⟨v', he, ?_, hb⟩
  · rcases h.2 with ⟨h2, h3⟩ | ⟨g, c, cur, h2, _⟩
    · exact h3
    · injection h2 with h2 _ _
      rw [e] at h2
      cases h2
  · refine h1 _ ?_
    rw [List.getD_eq_getElem?_getD, List.getElem?_eq_getElem (by omega)]
    exact List.getElem_mem _
  · rw [range_getD xs (n * 5) hl] at hr
    exact hr

theorem events_info5 : (Tryd.prog.info? 86).map (fun i => (i.zero, i.size, i.bytes)) = some (some (.agg #[.int .i64 0, .int .i64 0, .int .i64 0, .int .i64 0, .int .u32 0, .int .u32 0, .int .u32 0, .bool false]), 8, 48) := by kernel_rfl
set_option maxHeartbeats 1000000 in
theorem clone_events (A : Option Addr) (n cap : Nat) (C : Nat → Value) (w : World) (hA : A = none → n = 0) (hs : Sl w A (n * 8) C) (h1 : ∀ k, k < n * 8 → (C k).oneCell' = true) (hn : n ≤ 2000000000) :
    Calls Tryd.prog 84 #[.slice A n cap] w fun e w' => ∃ v, e = .returned v ∧ w'.ownsRow w.heap.size 86 8 v n ((List.range (n * 8)).map C) ∧ Below w.heap.size w w' := by
  have hq := fun w a n c => Lib.run_eql_slice_nil (P := Tryd.prog) w 38 86 a n c 0 0 Tryd.underlying38
  cases A with
  | none =>
    obtain rfl := hA rfl
    clear hA hs h1
    go_enter Tryd.func84, Tryd.ntmps84
    go_wp2
    go_ret
    exact ⟨_, rfl, ⟨by simp, .inl ⟨rfl, rfl⟩⟩, Below.refl _ _⟩
  | some a =>
    clear hA
    have hal := (Below.refl w.heap.size w).alloc (Nat.le_refl _) (.cells #[] 86)
    have hs2 := hs.step hal
    have hown := own_zero w 86 8
    obtain ⟨i0, hi, hy0, hy1, hy2⟩ := info_parts events_info5
    clear hs
    go_enter Tryd.func84, Tryd.ntmps84
    go_wp2_with (at_builtin; refine wpList_append_sl _ rfl (.tmp 5) (.tmp 6) 38 rfl w.heap.size 86 i0 _ 8 48 Tryd.underlying38 hi hy0 hy1 hy2 rfl (by omega) _ 0 _ rfl hown _ n _ C rfl hs2 h1 (by unfold maxLen; omega) (by omega) hal.size ?_; intro v' w5 hown5 hg5 _; have hB5 := below_own hal hown hg5 (Nat.le_refl _) (Nat.le_refl _))
    rw [Nat.zero_add, List.nil_append] at hown5
    go_ret
    exact ⟨_, rfl, hown5, hB5⟩
/-- Of an owned row. -/
theorem clone_events_own (v : Value) (n base : Nat) (xs : List Value) (w : World) (h : w.ownsRow base 86 8 v n xs) (h1 : ∀ x ∈ xs, x.oneCell' = true) (hn : n ≤ 2000000000) :
    Calls Tryd.prog 84 #[v] w fun e w' => ∃ v', e = .returned v' ∧ w'.ownsRow w.heap.size 86 8 v' n xs ∧ Below w.heap.size w w' := by
  obtain ⟨A, cap, rfl, _, hs⟩ := own_sl h
  have hl : xs.length = n * 8 := h.1
  refine (clone_events A n cap _ w (fun e => ?_) hs (fun k hk => ?_) hn).mono fun e w' ⟨v', he, hr, hb⟩ => ⟨v', he, ?_, hb⟩
  · rcases h.2 with ⟨h2, h3⟩ | ⟨g, c, cur, h2, _⟩
    · exact h3
    · injection h2 with h2 _ _
      rw [e] at h2
      cases h2
  · refine h1 _ ?_
    rw [List.getD_eq_getElem?_getD, List.getElem?_eq_getElem (by omega)]
    exact List.getElem_mem _
  · rw [range_getD xs (n * 8) hl] at hr
    exact hr

theorem threads_info5 : (Tryd.prog.info? 25).map (fun i => (i.zero, i.size, i.bytes)) = some (some (.agg #[.int .i64 0, .int .u32 0, .int .u32 0, .int .u32 0, .int .u32 0, .int .u32 0, .int .u32 0, .int .u32 0, .int .u32 0, .int .i64 0]), 10, 48) := by kernel_rfl
set_option maxHeartbeats 1000000 in
theorem clone_threads (A : Option Addr) (n cap : Nat) (C : Nat → Value) (w : World) (hA : A = none → n = 0) (hs : Sl w A (n * 10) C) (h1 : ∀ k, k < n * 10 → (C k).oneCell' = true) (hn : n ≤ 2000000000) :
    Calls Tryd.prog 93 #[.slice A n cap] w fun e w' => ∃ v, e = .returned v ∧ w'.ownsRow w.heap.size 25 10 v n ((List.range (n * 10)).map C) ∧ Below w.heap.size w w' := by
  have hq := fun w a n c => Lib.run_eql_slice_nil (P := Tryd.prog) w 35 25 a n c 0 0 Tryd.underlying35
  cases A with
  | none =>
    obtain rfl := hA rfl
    clear hA hs h1
    go_enter Tryd.func93, Tryd.ntmps93
    go_wp2
    go_ret
    exact ⟨_, rfl, ⟨by simp, .inl ⟨rfl, rfl⟩⟩, Below.refl _ _⟩
  | some a =>
    clear hA
    have hal := (Below.refl w.heap.size w).alloc (Nat.le_refl _) (.cells #[] 25)
    have hs2 := hs.step hal
    have hown := own_zero w 25 10
    obtain ⟨i0, hi, hy0, hy1, hy2⟩ := info_parts threads_info5
    clear hs
    go_enter Tryd.func93, Tryd.ntmps93
    go_wp2_with (at_builtin; refine wpList_append_sl _ rfl (.tmp 5) (.tmp 6) 35 rfl w.heap.size 25 i0 _ 10 48 Tryd.underlying35 hi hy0 hy1 hy2 rfl (by omega) _ 0 _ rfl hown _ n _ C rfl hs2 h1 (by unfold maxLen; omega) (by omega) hal.size ?_; intro v' w5 hown5 hg5 _; have hB5 := below_own hal hown hg5 (Nat.le_refl _) (Nat.le_refl _))
    rw [Nat.zero_add, List.nil_append] at hown5
    go_ret
    exact ⟨_, rfl, hown5, hB5⟩
/-- Of an owned row. -/
theorem clone_threads_own (v : Value) (n base : Nat) (xs : List Value) (w : World) (h : w.ownsRow base 25 10 v n xs) (h1 : ∀ x ∈ xs, x.oneCell' = true) (hn : n ≤ 2000000000) :
    Calls Tryd.prog 93 #[v] w fun e w' => ∃ v', e = .returned v' ∧ w'.ownsRow w.heap.size 25 10 v' n xs ∧ Below w.heap.size w w' := by
  obtain ⟨A, cap, rfl, _, hs⟩ := own_sl h
  have hl : xs.length = n * 10 := h.1
  refine (clone_threads A n cap _ w (fun e => ?_) hs (fun k hk => ?_) hn).mono fun e w' ⟨v', he, hr, hb⟩ => ⟨v', he, ?_, hb⟩
  · rcases h.2 with ⟨h2, h3⟩ | ⟨g, c, cur, h2, _⟩
    · exact h3
    · injection h2 with h2 _ _
      rw [e] at h2
      cases h2
  · refine h1 _ ?_
    rw [List.getD_eq_getElem?_getD, List.getElem?_eq_getElem (by omega)]
    exact List.getElem_mem _
  · rw [range_getD xs (n * 10) hl] at hr
    exact hr

/-- A machine in the making: all that lies from N on is its own. -/
structure MNew (L : Lay) (B : MB) (s : Mst) (N : Nat) (W : World) (V : Nat → Value) (bcs : List (Array Value)) : Prop where
  hN : 2 ≤ N
  mb : N ≤ B.mb
  blk : Blk W B.mb L.tm (L.arr V s.who)
  rows : ∀ j, j < 6 → W.ownsRow N (ety j) (esz j) (V j) (cnt B s j) (cel B s bcs j)
  codes : ∀ c ∈ B.codes, W.ownsRow N 54 5 c.val c.len ((List.range c.len).flatMap fun i => (c.F i).cells)
  bufs : BufsOk B.room s.bufs bcs
  mem : s.mem.length = B.m
section
variable {L : Lay} {B : MB} {s : Mst} {N : Nat} {W W' : World} {V : Nat → Value} {bcs : List (Array Value)}
theorem MNew.inv (h : MNew L B s N W V bcs) : MInv L B s (fun i => N ≤ i ∧ i < W.heap.size) W :=
  ⟨V, bcs, ⟨fun i hi => ⟨Nat.le_trans h.hN hi.1, hi.2⟩, ⟨h.mb, h.blk.lt⟩, fun j hj g hg => own_in (h.rows j hj) g hg, fun c hc g hg => own_in (h.codes c hc) g hg, h.blk, fun j hj => own_base (h.rows j hj) (Nat.zero_le _), fun c hc => own_base (h.codes c hc) (Nat.zero_le _), h.bufs, h.mem⟩⟩
theorem MNew.below (h : MNew L B s N W V bcs) (k : Below W.heap.size W W') : MNew L B s N W' V bcs :=
  ⟨h.hN, h.mb, h.blk.below k h.blk.lt, fun j hj => own_below (h.rows j hj) (Nat.le_refl _) k, fun c hc => own_below (h.codes c hc) (Nat.le_refl _) k, h.bufs, h.mem⟩
/-- A code more. -/
theorem MNew.addCode (h : MNew L B s N W V bcs) (hh : L.has 0 = true) {c : Cd} (hc : W.ownsRow N 54 5 c.val c.len ((List.range c.len).flatMap fun i => (c.F i).cells)) {v' : Value} {W4 : World} (hg : W.grownBy W4 (V 0).ownBlock)
    (hr : W4.ownsRow N 26 1 v' (B.codes.length + 1) (B.codes.map Cd.val ++ [c.val])) :
    MNew L { B with codes := B.codes ++ [c] } s N (W4.setCell ⟨B.mb, L.pos 0, none⟩ v') (updV V 0 v') bcs := by
  have h0 : W.ownsRow N 26 1 (V 0) (cnt B s 0) (cel B s bcs 0) := h.rows 0 (by decide)
  have hb4 := h.blk.grown hg (row_ne h.blk h0 (L.ne 0 (by decide)))
  have hg5 : W4.grownBy (W4.setCell ⟨B.mb, L.pos 0, none⟩ v') (some B.mb) := set_only _
  refine ⟨h.hN, h.mb, ?_, fun j hj => ?_, fun d hd => ?_, h.bufs, h.mem⟩
  · rw [← L.set V s.who 0 v' (by decide) hh]
    exact hb4.set_ _ _
  · by_cases hj0 : j = 0
    · subst hj0
      rw [updV_self]
      show (W4.setCell ⟨B.mb, L.pos 0, none⟩ v').ownsRow N 26 1 v' (B.codes ++ [c]).length ((B.codes ++ [c]).map Cd.val)
      rw [List.length_append, List.map_append]
      exact row_grown hr hg5 (row_ne hb4 hr (L.ne 0 (by decide)))
    · rw [updV_ne V v' hj0]
      have hrj := own_apart (h.rows j hj) h0 (ety_ne j hj 0 (by decide) hj0) hg
      have := row_grown hrj hg5 (row_ne hb4 hrj (L.ne j hj))
      have hsame : cnt { B with codes := B.codes ++ [c] } s j = cnt B s j ∧ cel { B with codes := B.codes ++ [c] } s bcs j = cel B s bcs j := by
        rcases (by omega : j = 1 ∨ j = 2 ∨ j = 3 ∨ j = 4 ∨ j = 5) with rfl | rfl | rfl | rfl | rfl <;> exact ⟨rfl, rfl⟩
      rw [hsame.1, hsame.2]
      exact this
  · have hd' : W.ownsRow N 54 5 d.val d.len ((List.range d.len).flatMap fun i => (d.F i).cells) := by
      rcases List.mem_append.1 hd with hd | hd
      · exact h.codes d hd
      · rw [List.mem_singleton.1 hd]; exact hc
    have hd4 := own_apart hd' h0 (by decide) hg
    exact row_grown hd4 hg5 (row_ne hb4 hd4 L.ni)
/-- A buffer more. -/
theorem MNew.addBuf (h : MNew L B s N W V bcs) (hh : L.has 2 = true) {cs : Array Value} (hb : Buf cs [] B.room) {v' : Value} {W4 : World} (hg : W.grownBy W4 (V 2).ownBlock)
    (hr : W4.ownsRow N 128 35 v' (s.bufs.length + 1) (bcs.flatMap Array.toList ++ cs.toList)) :
    MNew L B { s with bufs := s.bufs ++ [[]] } N (W4.setCell ⟨B.mb, L.pos 2, none⟩ v') (updV V 2 v') (bcs ++ [cs]) := by
  have h0 : W.ownsRow N 128 35 (V 2) (cnt B s 2) (cel B s bcs 2) := h.rows 2 (by decide)
  have hb4 := h.blk.grown hg (row_ne h.blk h0 (L.ne 2 (by decide)))
  have hg5 : W4.grownBy (W4.setCell ⟨B.mb, L.pos 2, none⟩ v') (some B.mb) := set_only _
  refine ⟨h.hN, h.mb, ?_, fun j hj => ?_, fun d hd => ?_, ⟨by simp [h.bufs.len], fun t ht => ?_⟩, h.mem⟩
  · show Blk _ _ _ (L.arr (updV V 2 v') s.who)
    rw [← L.set V s.who 2 v' (by decide) hh]
    exact hb4.set_ _ _
  · by_cases hj0 : j = 2
    · subst hj0
      rw [updV_self]
      have q : (W4.setCell ⟨B.mb, L.pos 2, none⟩ v').ownsRow N 128 35 v' (s.bufs.length + 1) (bcs.flatMap Array.toList ++ cs.toList) := row_grown hr hg5 (row_ne hb4 hr (L.ne 2 (by decide)))
      have e1 : (s.bufs ++ [([] : List Ent)]).length = s.bufs.length + 1 := by simp
      have e2 : (bcs ++ [cs]).flatMap Array.toList = bcs.flatMap Array.toList ++ cs.toList := by simp
      rw [← e1, ← e2] at q
      exact q
    · rw [updV_ne V v' hj0]
      have hrj := own_apart (h.rows j hj) h0 (ety_ne j hj 2 (by decide) hj0) hg
      have := row_grown hrj hg5 (row_ne hb4 hrj (L.ne j hj))
      have hsame : cnt B { s with bufs := s.bufs ++ [[]] } j = cnt B s j ∧ cel B { s with bufs := s.bufs ++ [[]] } (bcs ++ [cs]) j = cel B s bcs j := by
        rcases (by omega : j = 0 ∨ j = 1 ∨ j = 3 ∨ j = 4 ∨ j = 5) with rfl | rfl | rfl | rfl | rfl <;> exact ⟨rfl, rfl⟩
      rw [hsame.1, hsame.2]
      exact this
  · have hd4 := own_apart (h.codes d hd) h0 (by decide) hg
    exact row_grown hd4 hg5 (row_ne hb4 hd4 L.ni)
  · have hlen := h.bufs.len
    rw [List.length_append] at ht
    show Buf ((bcs ++ [cs]).getD t #[]) ((s.bufs ++ [[]]).getD t []) B.room
    rcases Nat.lt_or_ge t s.bufs.length with h1 | h1
    · have := h.bufs.buf t h1
      simp only [List.getD_eq_getElem?_getD, List.getElem?_append_left h1, List.getElem?_append_left (show t < bcs.length by omega)] at this ⊢
      exact this
    · obtain rfl : t = s.bufs.length := by simp at ht; omega
      have e : (bcs ++ [cs]).getD s.bufs.length #[] = cs := by rw [← hlen]; simp [List.getD_eq_getElem?_getD]
      rw [e]
      simpa [List.getD_eq_getElem?_getD] using hb
end
/-- What a machine is made with. -/
structure NewM (p : Pg) (B : MB) : Prop where
  m : B.m = p.m
  n : B.codes.length = p.n
  cd : ∀ t, t < p.n → (B.codes.getD t cdd).len = (p.cd t).len ∧ (B.codes.getD t cdd).F = (p.cd t).F ∧ (B.codes.getD t cdd).Ok
theorem thA_get (j : Nat) (h : j < 10) : (#[.int .i64 0, .int .u32 0, .int .u32 0, .int .u32 0, .int .u32 0, .int .u32 0, .int .u32 0, .int .u32 0, .int .u32 0, .int .i64 0] : Array Value)[j]! = tha.cells.getD j undef := by
  rcases (by omega : j = 0 ∨ j = 1 ∨ j = 2 ∨ j = 3 ∨ j = 4 ∨ j = 5 ∨ j = 6 ∨ j = 7 ∨ j = 8 ∨ j = 9) with rfl | rfl | rfl | rfl | rfl | rfl | rfl | rfl | rfl | rfl <;> rfl
theorem threads_made (n : Nat) : madeCells #[.int .i64 0, .int .u32 0, .int .u32 0, .int .u32 0, .int .u32 0, .int .u32 0, .int .u32 0, .int .u32 0, .int .u32 0, .int .i64 0] (n * 10) = ((List.replicate n tha).flatMap Th.cells).toArray := by
  apply Array.ext
  · rw [size_madeCells, List.size_toArray, flat_len Th.cells 10 th_len10, List.length_replicate]
  · intro k h1 h2
    rw [size_madeCells] at h1
    have hf := flat_get Th.cells 10 th_len10 tha (List.replicate n tha) (k / 10) (by rw [List.length_replicate]; omega) (k % 10) (by omega)
    have e1 : (List.replicate n tha).getD (k / 10) tha = tha := by
      rw [List.getD_eq_getElem?_getD, List.getElem?_replicate]
      split <;> rfl
    rw [e1, show k / 10 * 10 + k % 10 = k by omega] at hf
    have e2 := thA_get (k % 10) (by omega)
    have e3 : (madeCells #[.int .i64 0, .int .u32 0, .int .u32 0, .int .u32 0, .int .u32 0, .int .u32 0, .int .u32 0, .int .u32 0, .int .u32 0, .int .i64 0] (n * 10))[k]'(by rw [size_madeCells]; exact h1) = tha.cells.getD (k % 10) undef := by
      rw [← e2]
      simp only [madeCells, Array.getElem_map, Array.getElem_range]
      rfl
    rw [e3]
    rw [List.size_toArray] at h2
    rw [List.getElem?_eq_getElem h2] at hf
    rw [List.getElem_toArray, List.getD_eq_getElem?_getD, ← hf]
    rfl
end Go.Proofs.YtjmnogpnjombgaaDoor
