/- Who sleeps: kern.Kern.All in the midst of a machine, both machines' Sleepers; sc.Machine's Threads and Mem. -/
import Derived.Test.YtjmnogpnjombgaaDoorTsA4
namespace Go.Proofs.YtjmnogpnjombgaaDoor
open Go.ChangeShapes Go.WideShapes Go.ChangeAt Go.RowKit Go.Deep
set_option linter.unusedVariables false
set_option maxRecDepth 100000
set_option linter.unusedSimpArgs false

set_option maxHeartbeats 1000000 in
theorem clone_slp (v : Value) (l : List Slp) (hm : l.length ≤ 1000000) (w : World) (base : Nat) (hr : w.ownsRow base 159 2 v l.length (l.flatMap slp)) :
    Calls Tryd.prog 118 #[v] w fun e w' => ∃ o, e = .returned o ∧ w'.ownsRow w.heap.size 159 2 o l.length (l.flatMap slp) ∧ Below w.heap.size w w' := by
  have hn := fun w a n c => Lib.run_eql_slice_nil (P := Tryd.prog) w 88 159 a n c 0 0 Tryd.underlying88
  rcases hr.2 with ⟨rfl, hl0⟩ | ⟨g, cap', cur, rfl, hgb, hh, hnc, hcm, hcs, htk⟩
  · have hl : l = [] := List.eq_nil_of_length_eq_zero hl0
    subst hl
    clear hr
    go_enter Tryd.func118, Tryd.ntmps118
    go_wp2
    go_ret
    exact ⟨_, rfl, ⟨rfl, .inl ⟨rfl, rfl⟩⟩, Below.refl _ _⟩
  · obtain ⟨A2, c2, e2, _, hs⟩ := own_sl hr
    injection e2 with e2 _ e3
    subst e2 e3
    have hal := (Below.refl w.heap.size w).alloc (Nat.le_refl _) (.cells #[] 159)
    have hs2 := hs.step hal
    have hown := own_none w 159 2
    obtain ⟨i0, hi, hy0, hy1, hy2⟩ := info_parts slp_info
    have hone : ∀ k, k < l.length * 2 → ((l.flatMap slp).getD k undef).oneCell' = true := fun k hk => by
      have := flat_get slp 2 (fun _ => rfl) (0, 0) l (k / 2) (by omega) (k % 2) (by omega)
      rw [show k / 2 * 2 + k % 2 = k from by omega] at this
      rw [List.getD_eq_getElem?_getD, this]
      rcases (by omega : k % 2 = 0 ∨ k % 2 = 1) with e | e <;> rw [e] <;> rfl
    have hlen : (l.flatMap slp).length = l.length * 2 := hr.1
    have HL := Lib.hid hlen
    clear hs hr hh hcs htk hnc hcm hlen
    go_enter Tryd.func118, Tryd.ntmps118
    go_wp2_with (at_builtin; refine wpList_append_sl _ rfl (.tmp 5) (.tmp 6) 88 rfl w.heap.size 159 i0 _ 2 16 Tryd.underlying88 hi hy0 hy1 hy2 rfl (by omega) _ 0 _ rfl hown _ l.length _ (fun i => (l.flatMap slp).getD i undef) rfl hs2 hone (by unfold maxLen; omega) (by omega) hal.size ?_; intro v' w5 hown5 hg5 _; have hB5 := below_own hal hown hg5 (Nat.le_refl _) (Nat.le_refl _))
    rw [range_getD _ _ HL.out, Nat.zero_add, List.nil_append] at hown5
    go_ret
    exact ⟨_, rfl, hown5, hB5⟩

set_option maxHeartbeats 1000000 in
theorem all_anyM (kb ko : Nat) (v : Value) (l : List Slp) (hm : l.length ≤ 1000000) (w : World) (hr : w.ownsRow 0 159 2 v l.length (l.flatMap slp)) (c0 : w.cell? ⟨kb, ko, none⟩ = some v) :
    Calls Tryd.prog 95 #[.pointer (some ⟨kb, ko, none⟩)] w fun e w' => ∃ A cap, e = .returned (.slice A l.length cap) ∧ Below w.heap.size w w' := by
  obtain ⟨A, cap, hv, _, _⟩ := own_cap hr
  have cC := clone_slp v l hm w 0 hr
  subst hv
  clear hr
  go_enter Tryd.func95, Tryd.ntmps95
  go_wp2_with fail
  refine cC.mono ?_
  rintro e w1 ⟨o, rfl, ho, hb⟩
  obtain ⟨oA, oc, rfl, _, _⟩ := own_cap ho
  clear ho
  go_wp2
  go_ret
  exact ⟨_, _, rfl, hb⟩
set_option maxHeartbeats 1000000 in
theorem tsleepers_any (B : MB) (s : Mst) (own : Nat → Prop) (W : World) (hI : MInv tsoL B s own W) (hm : s.slp.length ≤ 1000000) (n : Nat) (hn : s.slp.length = n) :
    Calls Tryd.prog 43 #[.pointer (some ⟨B.mb, 0, none⟩)] W fun e W' => ∃ A cap, e = .returned (.slice A n cap) ∧ Below W.heap.size W W' := by
  obtain ⟨V, bcs, h⟩ := hI
  have cA := all_anyM B.mb 4 (V 4) s.slp hm W (h.rows 4 (by decide)) (h.cell (j := 4) (by decide) rfl)
  rw [hn] at cA
  clear h
  go_enter Tryd.func43, Tryd.ntmps43
  go_wp2_with fail
  with_reducible refine cA.mono ?_
  rintro e w1 ⟨A, cap, rfl, hb⟩
  clear cA
  go_wp2
  go_ret
  exact ⟨_, _, rfl, hb⟩
set_option maxHeartbeats 1000000 in
theorem ssleepers_any (B : MB) (s : Mst) (own : Nat → Prop) (W : World) (hI : MInv scL B s own W) (hm : s.slp.length ≤ 1000000) (n : Nat) (hn : s.slp.length = n) :
    Calls Tryd.prog 42 #[.pointer (some ⟨B.mb, 0, none⟩)] W fun e W' => ∃ A cap, e = .returned (.slice A n cap) ∧ Below W.heap.size W W' := by
  obtain ⟨V, bcs, h⟩ := hI
  have cA := all_anyM B.mb 3 (V 4) s.slp hm W (h.rows 4 (by decide)) (h.cell (j := 4) (by decide) rfl)
  rw [hn] at cA
  clear h
  go_enter Tryd.func42, Tryd.ntmps42
  go_wp2_with fail
  with_reducible refine cA.mono ?_
  rintro e w1 ⟨A, cap, rfl, hb⟩
  clear cA
  go_wp2
  go_ret
  exact ⟨_, _, rfl, hb⟩
set_option maxHeartbeats 1000000 in
theorem sthreads_any (B : MB) (s : Mst) (own : Nat → Prop) (W : World) (hI : MInv scL B s own W) (hn : s.ths.length ≤ 2000000000) :
    Calls Tryd.prog 41 #[.pointer (some ⟨B.mb, 0, none⟩)] W fun e W' => ∃ v, e = .returned v ∧ W'.ownsRow W.heap.size 25 10 v s.ths.length (s.ths.flatMap Th.cells) ∧ Below W.heap.size W W' := by
  obtain ⟨V, bcs, h⟩ := hI
  have hr : W.ownsRow 0 25 10 (V 1) s.ths.length (s.ths.flatMap Th.cells) := h.rows 1 (by decide)
  have cC := clone_threads_own (V 1) s.ths.length 0 _ W hr (th_cells_one s.ths) hn
  obtain ⟨A, cap, e5, _, _⟩ := own_cap hr
  have c4 : W.cell? ⟨B.mb, 1, none⟩ = some (V 1) := h.cell (j := 1) (by decide) rfl
  rw [e5] at c4 cC
  clear h hr e5
  go_enter Tryd.func41, Tryd.ntmps41
  go_wp2_with fail
  refine cC.mono ?_
  rintro e W2 ⟨v, rfl, hv, hb⟩
  have HF := Lib.hid (And.intro hv hb)
  obtain ⟨vA, vc, rfl, _, _⟩ := own_cap hv
  clear cC hv hb
  go_wp2
  go_ret
  exact ⟨_, rfl, HF.out.1, HF.out.2⟩
set_option maxHeartbeats 1000000 in
theorem smem_any (B : MB) (s : Mst) (own : Nat → Prop) (W : World) (hI : MInv scL B s own W) (hn : s.mem.length ≤ 2000000000) :
    Calls Tryd.prog 40 #[.pointer (some ⟨B.mb, 0, none⟩)] W fun e W' => ∃ v, e = .returned v ∧ W'.ownsRow W.heap.size 22 1 v s.mem.length (s.mem.map fun z => .int .u32 z) ∧ Below W.heap.size W W' := by
  obtain ⟨V, bcs, h⟩ := hI
  have hr : W.ownsRow 0 22 1 (V 3) s.mem.length (s.mem.map fun z => .int .u32 z) := h.rows 3 (by decide)
  have cC := clone_words_own (V 3) s.mem.length 0 _ W hr (fun x hx => by obtain ⟨z, _, rfl⟩ := List.mem_map.1 hx; rfl) hn
  obtain ⟨A, cap, e5, _, _⟩ := own_cap hr
  have c4 : W.cell? ⟨B.mb, 2, none⟩ = some (V 3) := h.cell (j := 3) (by decide) rfl
  rw [e5] at c4 cC
  clear h hr e5
  go_enter Tryd.func40, Tryd.ntmps40
  go_wp2_with fail
  refine cC.mono ?_
  rintro e W2 ⟨v, rfl, hv, hb⟩
  have HF := Lib.hid (And.intro hv hb)
  obtain ⟨vA, vc, rfl, _, _⟩ := own_cap hv
  clear cC hv hb
  go_wp2
  go_ret
  exact ⟨_, rfl, HF.out.1, HF.out.2⟩
end Go.Proofs.YtjmnogpnjombgaaDoor
