/- Queues of sleepers: Asleep, Sleep, All. -/
import Derived.Test.YtjmnogpnjombgaaDoorKern
import Derived.Test.YtjmnogpnjombgaaDoorGrow
namespace Go.Proofs.YtjmnogpnjombgaaDoor
open Go.ChangeShapes Go.WideShapes Go.ChangeAt Go.RowKit Go.Deep
set_option linter.unusedVariables false
set_option maxRecDepth 100000
set_option linter.unusedSimpArgs false

theorem slp_info : (Tryd.prog.info? 159).map (fun i => (i.zero, i.size, i.bytes)) = some (some (.agg #[.int .i64 0, .int .i64 0]), 2, 16) := by kernel_rfl
def aslp (l : List Slp) (who : Int) : Int × Bool := if fnd l who < l.length then ((l.getD (fnd l who) (0, 0)).2, true) else (0, false)

theorem asleep_any (kb base : Nat) (v : Value) (l : List Slp) (hm : l.length ≤ 1000000) (who : Int) (w : World) (h : K w kb base v l) :
    Calls Tryd.prog 138 #[.pointer (some ⟨kb, 0, none⟩), .int .i64 who] w fun e w' => e = .returned (.tuple #[.int .i64 (aslp l who).1, .bool (aslp l who).2]) ∧ Below w.heap.size w w' := by
  have cF := find_any kb base v l hm who w h
  by_cases hf : fnd l who < l.length
  · obtain ⟨k, hk⟩ : ∃ k, fnd l who = k := ⟨_, rfl⟩
    have e1 : fndI l who = (k : Int) := by unfold fndI; rw [if_pos hf, hk]
    have e2 : aslp l who = ((l.getD k (0, 0)).2, true) := by unfold aslp; rw [if_pos hf, hk]
    rw [e1] at cF
    rw [e2]
    rw [hk] at hf
    obtain ⟨p, hp⟩ : ∃ p, l.getD k (0, 0) = p := ⟨_, rfl⟩
    rw [hp]
    have HP := Lib.hid hp
    clear hk e1 e2 hp
    have HK := Lib.hid h
    have hlt := h.blk.lt
    clear h
    go_enter Tryd.func138, Tryd.ntmps138
    go_wp2_with fail
    refine cF.mono ?_
    rintro e w1 ⟨rfl, hb1⟩
    obtain ⟨A, cap, rfl, _, hs⟩ := HK.out.sle
    obtain ⟨b, off, rfl, hb, hc⟩ := hs (by omega)
    have k1 := keepAt hb1 hb (hc k hf 1 (.int .i64 (l.getD k (0, 0)).2) rfl)
    have c0 := keepAt hb1 hlt ((HK.out.blk.cell 0).trans rfl)
    have hk0 : (0 : Int) ≤ (k : Int) := by omega
    have hk1 : (k : Int) < (l.length : Int) := by omega
    rw [HP.out] at k1
    clear hs hc HK cF
    generalize l.length = n at *
    go_wp2
    go_ret2
    exact ⟨rfl, hb1⟩
  · have e1 : fndI l who = -1 := by unfold fndI; rw [if_neg hf]
    have e2 : aslp l who = (0, false) := by unfold aslp; rw [if_neg hf]
    rw [e1] at cF
    rw [e2]
    clear e1 e2 hf h
    go_enter Tryd.func138, Tryd.ntmps138
    go_wp2_with fail
    refine cF.mono ?_
    rintro e w1 ⟨rfl, hb1⟩
    go_wp2
    go_ret2
    exact ⟨rfl, hb1⟩

/-- What Sleep answers. -/
def slpE (l : List Slp) (who : Int) : Int := if who < 0 ∨ 7 < who then 1 else if fnd l who < l.length then 6 else 0
theorem sleep_no (kb base : Nat) (v : Value) (l : List Slp) (hm : l.length ≤ 1000000) (who addr : Int) (he : slpE l who ≠ 0) (w : World) (h : K w kb base v l) :
    Calls Tryd.prog 111 #[.pointer (some ⟨kb, 0, none⟩), .int .i64 who, .int .i64 addr] w fun e w' => e = .returned (.int .i64 (slpE l who)) ∧ Below w.heap.size w w' := by
  by_cases hw : who < 0 ∨ 7 < who
  · have e1 : slpE l who = 1 := by unfold slpE; rw [if_pos hw]
    rw [e1]
    clear e1 he h
    rcases hw with hw | hw
    · go_enter Tryd.func111, Tryd.ntmps111
      go_wp2
      go_ret
      exact ⟨rfl, Below.refl _ _⟩
    · have h0 : ¬ who < 0 := by omega
      have h8 : 8 ≤ who := by omega
      go_enter Tryd.func111, Tryd.ntmps111
      go_wp2
      go_ret
      exact ⟨rfl, Below.refl _ _⟩
  · have hf : fnd l who < l.length := by
      by_cases hf : fnd l who < l.length
      · exact hf
      · exact absurd (by unfold slpE; rw [if_neg hw, if_neg hf]) he
    have e1 : slpE l who = 6 := by unfold slpE; rw [if_neg hw, if_pos hf]
    have e2 : (aslp l who).2 = true := by unfold aslp; rw [if_pos hf]
    have cA := asleep_any kb base v l hm who w h
    rw [e2] at cA
    rw [e1]
    have h0 : ¬ who < 0 := by omega
    have h8 : ¬ 8 ≤ who := by omega
    clear e1 e2 he h hw hf
    go_enter Tryd.func111, Tryd.ntmps111
    go_wp2_with fail
    refine cA.mono ?_
    rintro e w1 ⟨rfl, hb1⟩
    go_wp2
    go_ret
    exact ⟨rfl, hb1⟩

set_option maxHeartbeats 1000000 in
theorem sleep_yes (kb base : Nat) (v : Value) (l : List Slp) (hm : l.length ≤ 10000) (who addr : Int) (he : slpE l who = 0) (w : World) (h : K w kb base v l) (hbs : base ≤ w.heap.size) :
    Calls Tryd.prog 111 #[.pointer (some ⟨kb, 0, none⟩), .int .i64 who, .int .i64 addr] w fun e w' => e = .returned (.int .i64 0) ∧ ∃ v', K w' kb base v' (l ++ [(who, addr)]) ∧ KStep w w' kb v := by
  have hw : ¬ (who < 0 ∨ 7 < who) := by
    intro hw
    unfold slpE at he
    rw [if_pos hw] at he
    exact absurd he (by decide)
  have hf : ¬ fnd l who < l.length := by
    intro hf
    unfold slpE at he
    rw [if_neg hw, if_pos hf] at he
    exact absurd he (by decide)
  have e2 : aslp l who = (0, false) := by unfold aslp; rw [if_neg hf]
  have cA := asleep_any kb base v l (by omega) who w h
  rw [e2] at cA
  have h0 : ¬ who < 0 := by omega
  have h8 : ¬ 8 ≤ who := by omega
  have hlt := h.lt
  obtain ⟨i0, hi, hy0, hy1, hy2⟩ := info_parts slp_info
  obtain ⟨A, cap, rfl, _, _⟩ := own_sl h.row
  have HK := Lib.hid h
  clear e2 he hw hf h
  go_enter Tryd.func111, Tryd.ntmps111
  go_wp2_with fail
  refine cA.mono ?_
  rintro e w1 ⟨rfl, hb1⟩
  have h1 := HK.out.below hb1
  have hal := (Below.refl w1.heap.size w1).alloc (Nat.le_refl _) (.cells #[.int .i64 who, .int .i64 addr] 159)
  have h2 := h1.below hal
  have c0 : w1.cell? ⟨kb, 0, none⟩ = some (.slice A l.length cap) := (h1.blk.cell 0).trans rfl
  have hown := h2.row
  have hblk := h2.blk
  have hsl := sl_new w1 159 [.int .i64 who, .int .i64 addr]
  have hone : ∀ k, k < 1 * 2 → ([Value.int .i64 who, Value.int .i64 addr].getD k undef).oneCell' = true := fun k hk => by
    rcases (by omega : k = 0 ∨ k = 1) with rfl | rfl <;> rfl
  have hbase : base ≤ (w1.alloc (.cells #[.int .i64 who, .int .i64 addr] 159)).heap.size := Nat.le_trans hbs (Nat.le_trans hb1.size hal.size)
  have hS2 : KStep w (w1.alloc (.cells #[.int .i64 who, .int .i64 addr] 159)) kb (.slice A l.length cap) := KStep.of_below (step_below hb1 hal)
  clear h1 h2 hal cA
  go_wp2_with (at_builtin; refine wpList_append_sl _ rfl (.tmp 26) (.tmp 30) 88 rfl base 159 i0 _ 2 16 Tryd.underlying88 hi hy0 hy1 hy2 rfl (by omega) _ l.length _ rfl hown _ 1 _ (fun i => [Value.int .i64 who, Value.int .i64 addr].getD i undef) rfl hsl hone (by unfold maxLen; omega) (by omega) hbase ?_; intro v' w5 hown5 hg5 _; rw [range_getD [Value.int .i64 who, Value.int .i64 addr] (1 * 2) rfl] at hown5; have hb5 := hblk.grow_own hown hg5 hlt; have f0 := hb5.frozen 0; have q0 : w5.cell? ⟨kb, 0, none⟩ = some (.slice A l.length cap) := (hb5.cell 0).trans rfl; have h5 : K (w5.setCell ⟨kb, 0, none⟩ v') kb base v' (l ++ [(who, addr)]) := ⟨hb5.set_ 0 v', by rw [List.length_append, List.flatMap_append]; exact own_grown hown5 (set_only _) hlt, hlt⟩; have hS5 : KStep w (w5.setCell ⟨kb, 0, none⟩ v') kb (.slice A l.length cap) := ⟨hg5.os.trans hS2.os, hg5.tape.trans hS2.tape, hg5.output.trans hS2.output, by have := hg5.size; have := hS2.size; have := (set_only (w := w5) (g := kb) (j := 0) v').size; omega, fun i hi h1 h2 => (Below.heap_setCell w5 ⟨kb, 0, none⟩ v' i h1).trans ((hg5.block i (Nat.lt_of_lt_of_le hi hS2.size) h2).trans (hS2.block i hi h1 h2))⟩; obtain ⟨nA, nc, rfl, _, _⟩ := own_sl hown5; have H5 := Lib.hid (And.intro h5 hS5); clear h5 hS5 hown hown5 hg5 hblk hb5 hS2 hsl hone)
  go_ret
  exact ⟨rfl, _, H5.out.1, H5.out.2⟩

theorem own_none (w : World) (t : TypeId) (size : Nat) : (w.alloc (.cells #[] t)).ownsRow w.heap.size t size (.slice (some ⟨w.heap.size, 0, none⟩) 0 0) 0 [] :=
  ⟨by simp, .inr ⟨_, 0, #[], rfl, Nat.le_refl _, heap_alloc_new w _, Nat.le_refl _, Nat.zero_le _, by simp, by simp⟩⟩
set_option maxHeartbeats 1000000 in
theorem all_any (kb base : Nat) (v : Value) (l : List Slp) (hm : l.length ≤ 1000000) (w : World) (h : K w kb base v l) :
    Calls Tryd.prog 95 #[.pointer (some ⟨kb, 0, none⟩)] w fun e w' => ∃ o, e = .returned o ∧ w'.ownsRow w.heap.size 159 2 o l.length (l.flatMap slp) ∧ Below w.heap.size w w' := by
  have hc : ∀ (A : Option Addr) (cap : Nat), v = .slice A l.length cap → Calls Tryd.prog 118 #[v] w fun e w' => ∃ o, e = .returned o ∧ w'.ownsRow w.heap.size 159 2 o l.length (l.flatMap slp) ∧ Below w.heap.size w w' := by
    intro A cap hv
    have hn := fun w a n c => Lib.run_eql_slice_nil (P := Tryd.prog) w 88 159 a n c 0 0 Tryd.underlying88
    rcases h.row.2 with ⟨rfl, hl0⟩ | ⟨g, cap', cur, rfl, hgb, hh, hnc, hcm, hcs, htk⟩
    · have hl : l = [] := List.eq_nil_of_length_eq_zero hl0
      subst hl
      clear hv h
      go_enter Tryd.func118, Tryd.ntmps118
      go_wp2
      go_ret
      exact ⟨_, rfl, ⟨rfl, .inl ⟨rfl, rfl⟩⟩, Below.refl _ _⟩
    · obtain ⟨A2, c2, e2, _, hs⟩ := own_sl h.row
      injection e2 with e2 _ e3
      subst e2 e3
      have hal := (Below.refl w.heap.size w).alloc (Nat.le_refl _) (.cells #[] 159)
      have hs2 := hs.step hal
      have hown := own_none w 159 2
      obtain ⟨i0, hi, hy0, hy1, hy2⟩ := info_parts slp_info
      have hone : ∀ k, k < l.length * 2 → ((l.flatMap slp).getD k undef).oneCell' = true := fun k hk => by
        have := flat_get slp 2 (fun _ => rfl) (0, 0) l (k / 2) (by omega) (k % 2) (by omega)
        rw [show k / 2 * 2 + k % 2 = k from by omega] at this
        rw [List.getD_eq_getElem?_getD, this]
        rcases (by omega : k % 2 = 0 ∨ k % 2 = 1) with e | e <;> rw [e] <;> rfl
      have hlen : (l.flatMap slp).length = l.length * 2 := h.row.1
      have HL := Lib.hid hlen
      clear hs h hv hh hcs htk hnc hcm hlen
      go_enter Tryd.func118, Tryd.ntmps118
      go_wp2_with (at_builtin; refine wpList_append_sl _ rfl (.tmp 5) (.tmp 6) 88 rfl w.heap.size 159 i0 _ 2 16 Tryd.underlying88 hi hy0 hy1 hy2 rfl (by omega) _ 0 _ rfl hown _ l.length _ (fun i => (l.flatMap slp).getD i undef) rfl hs2 hone (by unfold maxLen; omega) (by omega) hal.size ?_; intro v' w5 hown5 hg5 _; have hB5 := below_own hal hown hg5 (Nat.le_refl _) (Nat.le_refl _))
      rw [range_getD _ _ HL.out, Nat.zero_add, List.nil_append] at hown5
      go_ret
      exact ⟨_, rfl, hown5, hB5⟩
  obtain ⟨A, cap, hv, _, _⟩ := own_sl h.row
  have cC := hc A cap hv
  have c0 : w.cell? ⟨kb, 0, none⟩ = some v := (h.blk.cell 0).trans rfl
  subst hv
  clear h hc
  go_enter Tryd.func95, Tryd.ntmps95
  go_wp2_with fail
  refine cC.mono ?_
  rintro e w1 ⟨o, rfl, ho, hb⟩
  go_wp2
  go_ret
  exact ⟨_, rfl, ho, hb⟩
end Go.Proofs.YtjmnogpnjombgaaDoor
