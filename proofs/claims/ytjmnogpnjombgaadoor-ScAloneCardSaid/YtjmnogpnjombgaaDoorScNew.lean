/- sc.New. -/
import Derived.Test.YtjmnogpnjombgaaDoorScPick
import Derived.Test.YtjmnogpnjombgaaDoorMGen
import Derived.Test.YtjmnogpnjombgaaDoorIsaChk
namespace Go.Proofs.YtjmnogpnjombgaaDoor
open Go.ChangeShapes Go.WideShapes Go.ChangeAt Go.RowKit Go.Deep
set_option linter.unusedVariables false
set_option maxRecDepth 100000
set_option linter.unusedSimpArgs false

/-- The state of a machine that did nothing yet. -/
def s0 (p : Pg) : Mst := ⟨List.replicate p.n tha, [], (List.range p.m).map p.Z, [], [], 0⟩
set_option maxHeartbeats 1000000 in
theorem scNew_bad (p : Pg) (ho : p.Ok) (t j e : Int) (h : Chk p t j e) (he : e ≠ 0) (w : World) (ht : Tab w) (ha : p.At w) :
    Calls Tryd.prog 21 #[p.val] w fun r w' => r = .returned (.tuple #[.pointer none, .int .i64 e]) ∧ Below w.heap.size w w' := by
  have hal := (Below.refl w.heap.size w).alloc (Nat.le_refl _) (.cells #[.slice p.A p.n p.cap, .slice p.mA p.m p.mcap, .int .i64 p.room] 63)
  have cC := check_any p ho t j e h _ (ht.step hal) (ha.step hal)
  have hq := Blk.new w 63 #[.slice p.A p.n p.cap, .slice p.mA p.m p.mcap, .int .i64 p.room]
  have he' : (e != 0) = true := by simpa using he
  unfold Pg.val at cC ⊢
  have HB := Lib.hid hal
  clear ho h he ht ha hal
  go_enter Tryd.func21, Tryd.ntmps21
  go_wp2_with (refine wpList_load_row rfl 63 (.tmp 1) rfl _ rfl 63 #[.slice p.A p.n p.cap, .slice p.mA p.m p.mcap, .int .i64 p.room] (0, 0) _ hq Tryd.underlying63 rfl pg_info ?_)
  refine cC.mono ?_
  rintro r w1 ⟨rfl, hb1⟩
  have HB1 := Lib.hid (step_below HB.out hb1)
  clear cC hq hb1 HB
  go_wp2
  go_ret2
  exact ⟨rfl, HB1.out⟩

/-- The machine as it is first made: no codes yet. -/
theorem newS_of (A : Option Addr) (n cap : Nat) (mA : Option Addr) (m mcap : Nat) (Z : Nat → Int) (N : Nat) (hN : 2 ≤ N) (M : Array Value) (hM : ((List.replicate n tha).flatMap Th.cells).toArray = M) (tb : Nat) (htb : N ≤ tb) (hn : n ≤ 8) (mvA : Option Addr) (mvc : Nat) {W : World}
    (hmr : W.ownsRow N 22 1 (.slice mvA m mvc) m ((List.range (m * 1)).map fun i => .int .u32 (Z i))) (hU : Blk W tb 25 M) (mb : Nat) (hmb : N ≤ mb)
    (hX : Blk W mb 119 #[.slice none 0 0, .slice (some ⟨tb, 0, none⟩) n n, .slice mvA m mvc, .slice none 0 0, .slice none 0 0, .int .i64 0]) :
    MNew scL ⟨mb, [], 0, m⟩ ⟨List.replicate n tha, [], (List.range m).map Z, [], [], 0⟩ N W (fun j => if j = 1 then .slice (some ⟨tb, 0, none⟩) n n else if j = 3 then .slice mvA m mvc else .slice none 0 0) [] where
  hN := hN
  mb := hmb
  blk := hX
  rows := fun j hj => by
    rcases (by omega : j = 0 ∨ j = 1 ∨ j = 2 ∨ j = 3 ∨ j = 4 ∨ j = 5) with rfl | rfl | rfl | rfl | rfl | rfl
    · exact ⟨rfl, .inl ⟨rfl, rfl⟩⟩
    · have e1 : (List.replicate n tha).length = n := List.length_replicate
      show W.ownsRow N 25 10 (.slice (some ⟨tb, 0, none⟩) n n) (List.replicate n tha).length ((List.replicate n tha).flatMap Th.cells)
      have hl : ((List.replicate n tha).flatMap Th.cells).length = n * 10 := by rw [flat_len Th.cells 10 th_len10, e1]
      rw [e1]
      exact ⟨hl, .inr ⟨tb, n, M, rfl, htb, hU, Nat.le_refl _, by unfold maxLen; omega, by rw [← hM, List.size_toArray, hl], by rw [← hM, List.take_of_length_le (by rw [hl]; exact Nat.le_refl _)]⟩⟩
    · exact ⟨rfl, .inl ⟨rfl, rfl⟩⟩
    · show W.ownsRow N 22 1 (.slice mvA m mvc) ((List.range m).map Z).length (((List.range m).map Z).map fun z => .int .u32 z)
      rw [List.length_map, List.length_range, List.map_map]
      rw [Nat.mul_one] at hmr
      exact hmr
    · exact ⟨rfl, .inl ⟨rfl, rfl⟩⟩
    · exact ⟨rfl, .inl ⟨rfl, rfl⟩⟩
  codes := fun c hc => by cases hc
  bufs := ⟨rfl, fun t ht => absurd ht (by simp)⟩
  mem := by show ((List.range m).map Z).length = m; simp

set_option maxHeartbeats 4000000 in
theorem scNew_ok (p : Pg) (ho : p.Ok) (t j : Int) (h : Chk p t j 0) (w : World) (ht : Tab w) (ha : p.At w) :
    Calls Tryd.prog 21 #[p.val] w fun r w' => ∃ B, r = .returned (.tuple #[.pointer (some ⟨B.mb, 0, none⟩), .int .i64 0]) ∧ NewM p B ∧ MInv scL B (s0 p) (fun i => w.heap.size ≤ i ∧ i < w'.heap.size) w' ∧ Below w.heap.size w w' := by
  have hal := (Below.refl w.heap.size w).alloc (Nat.le_refl _) (.cells #[.slice p.A p.n p.cap, .slice p.mA p.m p.mcap, .int .i64 p.room] 63)
  have cC := check_any p ho t j 0 h _ (ht.step hal) (ha.step hal)
  have hq := Blk.new w 63 #[.slice p.A p.n p.cap, .slice p.mA p.m p.mcap, .int .i64 p.room]
  have hsm := h.small
  have hN := ht.1
  have hw := ha
  have HA := Lib.hid ha
  clear h ht ha
  obtain ⟨A, n, cap, cd, mA, m, mcap, Z, room⟩ := p
  unfold Pg.val at cC ⊢
  unfold s0
  dsimp only at *
  have hha := hw.step hal
  obtain ⟨hcodes, hcode, hmem⟩ := hha
  dsimp only at hcodes hcode hmem
  obtain ⟨xb, hxb⟩ : ∃ xb, w.heap.size = xb := ⟨_, rfl⟩
  have HXB := Lib.hid hxb
  have HO := Lib.hid ho
  have HP := Lib.hid (And.intro hcodes (And.intro hcode hmem))
  have HB := Lib.hid hal
  have HSM := Lib.hid hsm
  have HXN := Lib.hid (show 2 ≤ xb from by omega)
  obtain ⟨sm1, sm2, sm3, sm4, sm5, sm6⟩ := hsm
  rw [hxb] at hq
  clear hcodes hcode hmem hal ho hw sm6
  go_enter Tryd.func21, Tryd.ntmps21
  go_wp2_with (refine wpList_load_row rfl 63 (.tmp 1) rfl _ rfl 63 #[.slice A n cap, .slice mA m mcap, .int .i64 room] (0, 0) _ (by rw [hxb]; exact hq) Tryd.underlying63 rfl pg_info ?_)
  try rw [hxb]
  refine cC.mono ?_
  rintro r w1 ⟨rfl, hb1⟩
  have hq1 := hq.below hb1 hq.lt
  have HW := Lib.hid (And.intro (step_below HB.out hb1) (And.intro (HP.out.1.step hb1) (And.intro (fun t ht => (HP.out.2.1 t ht).step hb1) (HP.out.2.2.step hb1))))
  clear cC hq hb1 HB HP hxb
  go_wp2_with fail
  obtain ⟨M, hM⟩ : ∃ M, ((List.replicate n tha).flatMap Th.cells).toArray = M := ⟨_, rfl⟩
  have hmk : ∀ w : World, (Instr.makeSlice 35 (.int .i64 (n : Int)) (.int .i64 (n : Int))).run Tryd.prog w = .ok (.slice (some ⟨w.heap.size, 0, none⟩) n n) (w.alloc (.cells M 25)) := fun w => hM ▸ makeT n (by omega) w
  have HM := Lib.hid hM
  clear hM
  go_cut [7] (fun v wx => ∃ mb V, v = .pointer (some ⟨mb, 0, none⟩) ∧ MNew scL ⟨mb, [], 0, m⟩ ⟨List.replicate n tha, [], (List.range m).map Z, [], [], 0⟩ xb wx V [] ∧ Blk wx xb 63 #[.slice A n cap, .slice mA m mcap, .int .i64 room] ∧ mb ≠ xb ∧ Below xb w wx)
  case first =>
    obtain ⟨hB1, hcodes, hcode, hmem⟩ := HW.out
    have hq2 := hq1.drew
    have hmem2 : Sl w1.drew mA m (fun i => .int .u32 (Z i)) := hmem
    rw [HXB.out] at hB1
    have hB2 : Below xb w w1.drew := hB1.drew
    clear hcodes hcode hmem hB1 hq1
    refine startG (fun W' => Below w1.drew.heap.size w1.drew W') 9 (by kernel_rfl) ?_
    generalize w1.drew = W0 at hq2 hmem2 hB2 ⊢
    have HF := Lib.hid (And.intro hq2 (And.intro hq2.lt (And.intro hmem2 hB2)))
    have hH : Below W0.heap.size W0 W0 := Below.refl _ _
    clear hq2 hmem2 hB2
    refine takeG0 (i := 0) (v := .pointer (some ⟨xb, 1, none⟩)) rfl (by kernel_rfl) (by kernel_rfl) (by kernel_rfl) (by kernel_rfl) (fun _ _ _ h => h) (Or.inl ⟨by rfl, fun W hW => by go_simp⟩) hH ?_
    simp only [Act.put, List.getElem_toArray, List.getElem_cons_zero, List.getElem_cons_succ, List.setIfInBounds_toArray, List.set_cons_zero, List.set_cons_succ]
    refine takeT (i := 1) (v := .slice mA m mcap) rfl (by kernel_rfl) (by kernel_rfl) (by kernel_rfl) (by kernel_rfl) (fun _ _ _ h => h) (Or.inl ⟨by rfl, fun W hW => by have q0 := (HF.out.1.below hW HF.out.2.1).cell 1; go_simp⟩) hH ?_
    simp only [Act.put, List.getElem_toArray, List.getElem_cons_zero, List.getElem_cons_succ, List.setIfInBounds_toArray, List.set_cons_zero, List.set_cons_succ]
    refine takeG0 (i := 3) (v := .pointer (some ⟨xb, 0, none⟩)) rfl (by kernel_rfl) (by kernel_rfl) (by kernel_rfl) (by kernel_rfl) (fun _ _ _ h => h) (Or.inl ⟨by rfl, fun W hW => by go_simp⟩) hH ?_
    simp only [Act.put, List.getElem_toArray, List.getElem_cons_zero, List.getElem_cons_succ, List.setIfInBounds_toArray, List.set_cons_zero, List.set_cons_succ]
    refine takeT (i := 4) (v := .slice A n cap) rfl (by kernel_rfl) (by kernel_rfl) (by kernel_rfl) (by kernel_rfl) (fun _ _ _ h => h) (Or.inl ⟨by rfl, fun W hW => by have q0 := (HF.out.1.below hW HF.out.2.1).cell 0; go_simp⟩) hH ?_
    simp only [Act.put, List.getElem_toArray, List.getElem_cons_zero, List.getElem_cons_succ, List.setIfInBounds_toArray, List.set_cons_zero, List.set_cons_succ]
    refine takeG0 (i := 5) (v := .int .i64 (n : Int)) rfl (by kernel_rfl) (by kernel_rfl) (by kernel_rfl) (by kernel_rfl) (fun _ _ _ h => h) (Or.inl ⟨by rfl, fun W hW => by go_simp⟩) hH ?_
    simp only [Act.put, List.getElem_toArray, List.getElem_cons_zero, List.getElem_cons_succ, List.setIfInBounds_toArray, List.set_cons_zero, List.set_cons_succ]
    refine manyG (rs := [2, 6]) (by kernel_rfl) (by simp) (AllG.cons (i := 2) rfl (fun K hK => ?_) (AllG.cons (i := 6) rfl (fun K hK => ?_) AllG.nil))
    · go_simp
      have hC := clone_words mA m mcap (fun i => .int .u32 (Z i)) W0 (pg_nonil HF.out.2.2.1) (by rw [Nat.mul_one]; exact HF.out.2.2.1.below (Nat.le_refl _) hH) (fun k hk => rfl) (by omega)
      with_reducible refine hC.mono ?_
      rintro e W5 ⟨mv, rfl, hmr, hbm⟩
      clear hC
      have hb5 : Below W0.heap.size W0 W5 := hbm
      refine hK.out _ _ hb5 (fun _ => ?_)
      clear hK K hbm hH
      try simp only [Act.put, List.getElem_toArray, List.getElem_cons_zero, List.getElem_cons_succ, List.setIfInBounds_toArray, List.set_cons_zero, List.set_cons_succ]
      refine onlyG (i := 6) (by kernel_rfl) rfl (fun K hK => ?_)
      go_simp
      have hb6 := hb5.alloc hb5.size (.cells M 25)
      have hU := Blk.new W5 25 M
      obtain ⟨tb, htb⟩ : ∃ tb, W5.heap.size = tb := ⟨_, rfl⟩
      have htl : W0.heap.size ≤ tb := by rw [← htb]; exact hb5.size
      rw [htb] at hU
      try rw [htb]
      clear htb
      have hmr2 := own_below hmr (Nat.le_refl _) ((Below.refl W5.heap.size W5).alloc (Nat.le_refl _) (.cells M 25))
      refine hK.out _ _ hb6 (fun _ => ?_)
      clear hK K hmr hb5
      try simp only [Act.put, List.getElem_toArray, List.getElem_cons_zero, List.getElem_cons_succ, List.setIfInBounds_toArray, List.set_cons_zero, List.set_cons_succ]
      generalize W5.alloc (.cells M 25) = W6 at hb6 hU hmr2 ⊢
      have hmr := hmr2
      clear hmr2
      obtain ⟨mvA, mvc, rfl, _, _⟩ := own_sl hmr
      refine takeG0 (i := 7) (v := .agg #[.slice none 0 0, .slice (some ⟨tb, 0, none⟩) n n, .slice mvA m mvc, .slice none 0 0, .slice none 0 0, .int .i64 0]) rfl (by kernel_rfl) (by kernel_rfl) (by kernel_rfl) (by kernel_rfl) (fun _ _ _ h => h) (Or.inl ⟨by rfl, fun W hW => by go_simp⟩) hb6 ?_
      simp only [Act.put, List.getElem_toArray, List.getElem_cons_zero, List.getElem_cons_succ, List.setIfInBounds_toArray, List.set_cons_zero, List.set_cons_succ]
      refine onlyG (i := 8) (by kernel_rfl) rfl (fun K hK => ?_)
      go_simp
      have hb9 := hb6.alloc hb6.size (.cells #[.slice none 0 0, .slice (some ⟨tb, 0, none⟩) n n, .slice mvA m mvc, .slice none 0 0, .slice none 0 0, .int .i64 0] 119)
      have hal := (Below.refl W6.heap.size W6).alloc (Nat.le_refl _) (.cells #[.slice none 0 0, .slice (some ⟨tb, 0, none⟩) n n, .slice mvA m mvc, .slice none 0 0, .slice none 0 0, .int .i64 0] 119)
      have hX := Blk.new W6 119 #[.slice none 0 0, .slice (some ⟨tb, 0, none⟩) n n, .slice mvA m mvc, .slice none 0 0, .slice none 0 0, .int .i64 0]
      obtain ⟨mb, hmb⟩ : ∃ mb, W6.heap.size = mb := ⟨_, rfl⟩
      have hml : xb ≤ mb ∧ mb ≠ xb := by have h1 := HF.out.2.1; have h2 := hb6.size; omega
      rw [hmb] at hX
      try rw [hmb]
      have hU9 := hU.below hal hU.lt
      have hmr9 := own_below hmr (Nat.le_refl _) hal
      have hNN := HXN.out
      have HQ := Lib.hid (newS_of A n cap mA m mcap Z xb hNN M HM.out tb (by have := HF.out.2.1; omega) sm2 mvA mvc (own_base hmr9 (by have := HF.out.2.1; omega)) hU9 mb hml.1 hX)
      have HZ := Lib.hid (And.intro (HF.out.1.below hb9 HF.out.2.1) (step_belowN HF.out.2.2.2 hb9 (Nat.le_of_lt HF.out.2.1)))
      refine hK.out _ _ hb9 (fun _ => ?_)
      clear hK K hal hX hU hmr hU9 hmr9 hb9 hmb
      try simp only [Act.put, List.getElem_toArray, List.getElem_cons_zero, List.getElem_cons_succ, List.setIfInBounds_toArray, List.set_cons_zero, List.set_cons_succ]
      refine lastG (by kernel_rfl) rfl (by kernel_rfl) (fun K hK => ?_)
      go_simp
      refine hK.out _ _ ?_
      clear hK K
      go_wp2_with fail
      go_meet
      case rel => exact ⟨mb, _, rfl, HQ.out, HZ.out.1, hml.2, HZ.out.2⟩
    · go_simp
      have hb5 := hH.alloc hH.size (.cells M 25)
      have hU := Blk.new W0 25 M
      obtain ⟨tb, htb⟩ : ∃ tb, W0.heap.size = tb := ⟨_, rfl⟩
      have htl : W0.heap.size ≤ tb := by rw [← htb]; exact hH.size
      rw [htb] at hU
      try rw [htb]
      clear htb
      refine hK.out _ _ hb5 (fun _ => ?_)
      clear hK K hH
      try simp only [Act.put, List.getElem_toArray, List.getElem_cons_zero, List.getElem_cons_succ, List.setIfInBounds_toArray, List.set_cons_zero, List.set_cons_succ]
      generalize W0.alloc (.cells M 25) = W5 at hb5 hU ⊢
      refine onlyG (i := 2) (by kernel_rfl) rfl (fun K hK => ?_)
      go_simp
      have hC := clone_words mA m mcap (fun i => .int .u32 (Z i)) W5 (pg_nonil HF.out.2.2.1) (by rw [Nat.mul_one]; exact HF.out.2.2.1.below (Nat.le_refl _) hb5) (fun k hk => rfl) (by omega)
      with_reducible refine hC.mono ?_
      rintro e W6 ⟨mv, rfl, hmr, hbm⟩
      clear hC
      have hb6 : Below W0.heap.size W0 W6 := step_below hb5 hbm
      have hU2 := hU.below hbm hU.lt
      have hmr2 := own_base hmr hb5.size
      refine hK.out _ _ hb6 (fun _ => ?_)
      clear hK K hbm hU hmr hb5
      try simp only [Act.put, List.getElem_toArray, List.getElem_cons_zero, List.getElem_cons_succ, List.setIfInBounds_toArray, List.set_cons_zero, List.set_cons_succ]
      have hU := hU2
      have hmr := hmr2
      clear hU2 hmr2
      obtain ⟨mvA, mvc, rfl, _, _⟩ := own_sl hmr
      refine takeG0 (i := 7) (v := .agg #[.slice none 0 0, .slice (some ⟨tb, 0, none⟩) n n, .slice mvA m mvc, .slice none 0 0, .slice none 0 0, .int .i64 0]) rfl (by kernel_rfl) (by kernel_rfl) (by kernel_rfl) (by kernel_rfl) (fun _ _ _ h => h) (Or.inl ⟨by rfl, fun W hW => by go_simp⟩) hb6 ?_
      simp only [Act.put, List.getElem_toArray, List.getElem_cons_zero, List.getElem_cons_succ, List.setIfInBounds_toArray, List.set_cons_zero, List.set_cons_succ]
      refine onlyG (i := 8) (by kernel_rfl) rfl (fun K hK => ?_)
      go_simp
      have hb9 := hb6.alloc hb6.size (.cells #[.slice none 0 0, .slice (some ⟨tb, 0, none⟩) n n, .slice mvA m mvc, .slice none 0 0, .slice none 0 0, .int .i64 0] 119)
      have hal := (Below.refl W6.heap.size W6).alloc (Nat.le_refl _) (.cells #[.slice none 0 0, .slice (some ⟨tb, 0, none⟩) n n, .slice mvA m mvc, .slice none 0 0, .slice none 0 0, .int .i64 0] 119)
      have hX := Blk.new W6 119 #[.slice none 0 0, .slice (some ⟨tb, 0, none⟩) n n, .slice mvA m mvc, .slice none 0 0, .slice none 0 0, .int .i64 0]
      obtain ⟨mb, hmb⟩ : ∃ mb, W6.heap.size = mb := ⟨_, rfl⟩
      have hml : xb ≤ mb ∧ mb ≠ xb := by have h1 := HF.out.2.1; have h2 := hb6.size; omega
      rw [hmb] at hX
      try rw [hmb]
      have hU9 := hU.below hal hU.lt
      have hmr9 := own_below hmr (Nat.le_refl _) hal
      have hNN := HXN.out
      have HQ := Lib.hid (newS_of A n cap mA m mcap Z xb hNN M HM.out tb (by have := HF.out.2.1; omega) sm2 mvA mvc (own_base hmr9 (by have := HF.out.2.1; omega)) hU9 mb hml.1 hX)
      have HZ := Lib.hid (And.intro (HF.out.1.below hb9 HF.out.2.1) (step_belowN HF.out.2.2.2 hb9 (Nat.le_of_lt HF.out.2.1)))
      refine hK.out _ _ hb9 (fun _ => ?_)
      clear hK K hal hX hU hmr hU9 hmr9 hb9 hmb
      try simp only [Act.put, List.getElem_toArray, List.getElem_cons_zero, List.getElem_cons_succ, List.setIfInBounds_toArray, List.set_cons_zero, List.set_cons_succ]
      refine lastG (by kernel_rfl) rfl (by kernel_rfl) (fun K hK => ?_)
      go_simp
      refine hK.out _ _ ?_
      clear hK K
      go_wp2_with fail
      go_meet
      case rel => exact ⟨mb, _, rfl, HQ.out, HZ.out.1, hml.2, HZ.out.2⟩
  case rest =>
    obtain ⟨mb, V, rfl, hM0, hq0, hmx, hB0⟩ := hcut
    have a0 : wc.cell? ⟨xb, 0, none⟩ = some (.slice A n cap) := hq0.cell 0
    have H0 := Lib.hid (And.intro hM0 (And.intro hq0 hB0))
    have hBW := Lib.hid HW.out.1
    clear hM0 hq0 hB0 hq1 HW hmk HM
    go_wp2_with fail
    go_loopw [31] (fun i wr => ∃ (k : Nat) (cds : List Cd) (V : Nat → Value), k ≤ n ∧ i = .int .i64 (k : Int) ∧ MNew scL ⟨mb, cds, 0, m⟩ ⟨List.replicate n tha, [], (List.range m).map Z, [], [], 0⟩ xb wr V [] ∧ cds.length = k ∧ Hid (∀ t, t < k → (cds.getD t cdd).len = (cd t).len ∧ (cds.getD t cdd).F = (cd t).F ∧ (cds.getD t cdd).Ok) ∧ Below xb w wr) (fun i _ => n - (intOf i).toNat)
    case atStart => exact ⟨0, [], V, Nat.zero_le _, rfl, H0.out.1, rfl, Lib.hid (fun t ht => absurd ht (by omega)), H0.out.2.2⟩
    case round =>
      obtain ⟨k, cds, V1, hk, rfl, hM1, hcl, HC1, hB1⟩ := hrel
      by_cases hkn : k < n
      · have hk0 : (0 : Int) ≤ (k : Int) := by omega
        have hk1 : (k : Int) < (n : Int) := by omega
        have hcodes := HA.out.codes
        have hcodek := HA.out.code k hkn
        have hoc := HO.out.cds k hkn
        have hsm6 := HSM.out.2.2.2.2.2 k hkn
        dsimp only at hcodes hcodek hoc hsm6
        obtain ⟨b, off, rfl, hlt, hcc⟩ := hcodes (by omega)
        rw [HXB.out] at hlt
        have hck : wr.cell? ⟨b, off + k, none⟩ = some (cd k).val := (hB1.cell (p := ⟨b, _, none⟩) hlt).trans (hcc k hkn)
        have hat : (cd k).At wr := by
          have := hcodek.below (B := xb) (by rw [HXB.out]; exact Nat.le_refl _) hB1
          exact this
        obtain ⟨cdk, hcdk⟩ : ∃ c, cd k = c := ⟨_, rfl⟩
        have HCD := Lib.hid hcdk
        rw [hcdk] at hck hat hoc hsm6
        obtain ⟨cA, cl, cc, cF⟩ := cdk
        unfold Cd.val at hck
        dsimp only at hck hsm6
        obtain ⟨V0, hV0⟩ : ∃ v, V1 0 = v := ⟨_, rfl⟩
        have hr0 : wr.ownsRow xb 26 1 (V1 0) cds.length (cds.map Cd.val) := hM1.rows 0 (by decide)
        obtain ⟨vA, vc, ev, _, hvm⟩ := own_cap hr0
        have hc0 : wr.cell? ⟨mb, 0, none⟩ = some (V1 0) := (hM1.blk.cell 0).trans rfl
        rw [ev, hcl] at hc0
        obtain ⟨i0, hi, hy0, hy1, hy2⟩ := info_parts slc_info5
        have HR := Lib.hid (And.intro hM1 (And.intro hB1 (And.intro hat (And.intro hoc hcl))))
        have HEV := Lib.hid (show V1 0 = .slice vA k vc from by rw [ev, hcl])
        clear hcodes hcodek hcc hM1 hB1 hat hoc hcl hr0 ev hcdk hV0
        go_wp2
        refine startG (fun W' => W'.cell? ⟨mb, 0, none⟩ = some (.slice vA k vc)) 11 (by kernel_rfl) ?_
        have hc0' : wr.drew.cell? ⟨mb, 0, none⟩ = some (.slice vA k vc) := hc0
        have HRM := Lib.hid (HR.out.1.below (W' := wr.drew) (below_drew wr))
        have HRB := Lib.hid (show Below xb w wr.drew from HR.out.2.1.drew)
        have HRA := Lib.hid (show (⟨cA, cl, cc, cF⟩ : Cd).At wr.drew from HR.out.2.2.1)
        clear hc0 hck
        generalize wr.drew = W0 at hc0' HRM HRB HRA ⊢
        refine takeG0 (i := 0) (v := .pointer (some ⟨mb, 0, none⟩)) rfl (by kernel_rfl) (by kernel_rfl) (by kernel_rfl) (by kernel_rfl) (fun _ _ _ h => h) (Or.inl ⟨by rfl, fun W hW => by go_simp⟩) hc0' ?_
        simp only [Act.put, List.getElem_toArray, List.getElem_cons_zero, List.getElem_cons_succ, List.setIfInBounds_toArray, List.set_cons_zero, List.set_cons_succ]
        refine takeG0 (i := 1) (v := .pointer (some ⟨mb, 0, none⟩)) rfl (by kernel_rfl) (by kernel_rfl) (by kernel_rfl) (by kernel_rfl) (fun _ _ _ h => h) (Or.inl ⟨by rfl, fun W hW => by go_simp⟩) hc0' ?_
        simp only [Act.put, List.getElem_toArray, List.getElem_cons_zero, List.getElem_cons_succ, List.setIfInBounds_toArray, List.set_cons_zero, List.set_cons_succ]
        refine takeG0 (i := 2) (v := .pointer (some ⟨mb, 0, none⟩)) rfl (by kernel_rfl) (by kernel_rfl) (by kernel_rfl) (by kernel_rfl) (fun _ _ _ h => h) (Or.inl ⟨by rfl, fun W hW => by go_simp⟩) hc0' ?_
        simp only [Act.put, List.getElem_toArray, List.getElem_cons_zero, List.getElem_cons_succ, List.setIfInBounds_toArray, List.set_cons_zero, List.set_cons_succ]
        refine takeG0 (i := 3) (v := .pointer (some ⟨mb, 0, none⟩)) rfl (by kernel_rfl) (by kernel_rfl) (by kernel_rfl) (by kernel_rfl) (fun _ _ _ h => h) (Or.inl ⟨by rfl, fun W hW => by go_simp⟩) hc0' ?_
        simp only [Act.put, List.getElem_toArray, List.getElem_cons_zero, List.getElem_cons_succ, List.setIfInBounds_toArray, List.set_cons_zero, List.set_cons_succ]
        refine takeT (i := 4) (v := .slice vA k vc) rfl (by kernel_rfl) (by kernel_rfl) (by kernel_rfl) (by kernel_rfl) (fun _ _ _ h => h) (Or.inl ⟨by rfl, fun W hW => by have q0 := hW; go_simp⟩) hc0' ?_
        simp only [Act.put, List.getElem_toArray, List.getElem_cons_zero, List.getElem_cons_succ, List.setIfInBounds_toArray, List.set_cons_zero, List.set_cons_succ]
        refine takeG0 (i := 5) (v := .slice cA cl cc) rfl (by kernel_rfl) (by kernel_rfl) (by kernel_rfl) (by kernel_rfl) (fun _ _ _ h => h) (Or.inl ⟨by rfl, fun W hW => by go_simp⟩) hc0' ?_
        simp only [Act.put, List.getElem_toArray, List.getElem_cons_zero, List.getElem_cons_succ, List.setIfInBounds_toArray, List.set_cons_zero, List.set_cons_succ]
        refine onlyG (i := 6) (by kernel_rfl) rfl (fun K hK => ?_)
        go_simp
        have hC := clone_instrs cA cl cc _ W0 (pge_nonil HRA.out) (slE_sl (fun i => (cF i).cells) (fun _ => rfl) HRA.out) (fun q hq => ins_one cF cl q hq) (by omega)
        with_reducible refine hC.mono ?_
        rintro e W5 ⟨nv, rfl, hnr, hbn⟩
        clear hC
        rw [range_getD _ (cl * 5) (flat_len (fun i => (cF i).cells) 5 (fun _ => rfl) (List.range cl) |>.trans (by rw [List.length_range]))] at hnr
        obtain ⟨nA, nc, rfl, hnc, _⟩ := own_sl hnr
        have hxw : xb ≤ W0.heap.size := by have h1 := HRM.out.blk.lt; have h2 := HRM.out.mb; omega
        have HM5 := Lib.hid (HRM.out.below hbn)
        have HB5 := Lib.hid (step_belowN HRB.out hbn hxw)
        have HC5 := Lib.hid (own_base hnr hxw)
        have hc5 : W5.cell? ⟨mb, 0, none⟩ = some (.slice vA k vc) := (hbn.cell (p := ⟨mb, 0, none⟩) HRM.out.blk.lt).trans hc0'
        refine hK.out _ _ hc5 (fun _ => ?_)
        clear hK K hnr hbn hc0' HRM HRB HRA hxw
        try simp only [Act.put, List.getElem_toArray, List.getElem_cons_zero, List.getElem_cons_succ, List.setIfInBounds_toArray, List.set_cons_zero, List.set_cons_succ]
        refine onlyG (i := 7) (by kernel_rfl) rfl (fun K hK => ?_)
        go_simp
        have hal := (Below.refl W5.heap.size W5).alloc (Nat.le_refl _) (.cells #[.slice nA cl nc] 26)
        have HM6 := Lib.hid (HM5.out.below hal)
        have HB6 := Lib.hid (step_belowN HB5.out hal (by have h1 := HM5.out.blk.lt; have h2 := HM5.out.mb; omega))
        have HC6 := Lib.hid (own_below HC5.out (Nat.le_refl _) hal)
        have src := sl_new W5 26 [.slice nA cl nc]
        have hc6 : (W5.alloc (.cells #[.slice nA cl nc] 26)).cell? ⟨mb, 0, none⟩ = some (.slice vA k vc) := (hal.cell (p := ⟨mb, 0, none⟩) HM5.out.blk.lt).trans hc5
        refine hK.out _ _ hc6 (fun _ => ?_)
        clear hK K hal hc5
        try simp only [Act.put, List.getElem_toArray, List.getElem_cons_zero, List.getElem_cons_succ, List.setIfInBounds_toArray, List.set_cons_zero, List.set_cons_succ]
        have own2 : _ := HM6.out.rows 0 (by decide)
        rw [HEV.out] at own2
        have own2' := own2_of HM6.out HEV.out HR.out.2.2.2.2
        clear own2
        have hone : ∀ q, q < 1 * 1 → ([Value.slice nA cl nc].getD q undef).oneCell' = true := fun q hq => by
          obtain rfl : q = 0 := by omega
          rfl
        refine onlyG (i := 8) (by kernel_rfl) rfl (fun K hK => ?_)
        rw [if_pos (by rfl)]
        refine wp_append_sl _ (.tmp 39) (.tmp 42) 34 rfl xb 26 i0 _ 1 24 Tryd.underlying34 hi hy0 hy1 hy2 rfl (by omega) _ k _ rfl own2' _ 1 _ (fun i => [Value.slice nA cl nc].getD i undef) rfl src hone (by unfold maxLen; omega) (by omega) (by have h1 := HM6.out.blk.lt; have h2 := HM6.out.mb; omega) ?_
        intro v4 W4 own4 hg4 _
        rw [range_getD [Value.slice nA cl nc] (1 * 1) rfl] at own4
        have hb4 := HM6.out.blk.grown hg4 (row_ne HM6.out.blk own2' (scL.ne 0 (by decide)))
        have hc4 : W4.cell? ⟨mb, 0, none⟩ = some (.slice vA k vc) := (hb4.cell 0).trans (by rw [← HEV.out]; rfl)
        have f4 := hb4.frozen 0
        have HN4 := Lib.hid (HM6.out.addCode rfl (c := ⟨nA, cl, nc, cF⟩) HC6.out (v' := v4) (W4 := W4) (by rw [HEV.out]; exact hg4) (by rw [HR.out.2.2.2.2]; exact own4))
        have HB4 := Lib.hid (HB6.out.grown hg4 (by have h1 := HM6.out.blk.lt; have h2 := HM6.out.mb; omega) (fun q hq => own_ge own2' q hq))
        obtain ⟨v4A, v4c, rfl, _, hv4⟩ := own_cap own4
        refine hK.out _ _ hc4 (fun _ => ?_)
        clear hK K src hc6 own2' own4 hg4
        try simp only [Act.put, List.getElem_toArray, List.getElem_cons_zero, List.getElem_cons_succ, List.setIfInBounds_toArray, List.set_cons_zero, List.set_cons_succ]
        refine takeG0 (i := 9) (v := .pointer (some ⟨mb, 0, none⟩)) rfl (by kernel_rfl) (by kernel_rfl) (by kernel_rfl) (by kernel_rfl) (fun _ _ _ h => h) (Or.inl ⟨by rfl, fun W hW => by go_simp⟩) hc4 ?_
        simp only [Act.put, List.getElem_toArray, List.getElem_cons_zero, List.getElem_cons_succ, List.setIfInBounds_toArray, List.set_cons_zero, List.set_cons_succ]
        refine takeG0 (i := 10) (v := .pointer (some ⟨mb, 0, none⟩)) rfl (by kernel_rfl) (by kernel_rfl) (by kernel_rfl) (by kernel_rfl) (fun _ _ _ h => h) (Or.inl ⟨by rfl, fun W hW => by go_simp⟩) hc4 ?_
        simp only [Act.put, List.getElem_toArray, List.getElem_cons_zero, List.getElem_cons_succ, List.setIfInBounds_toArray, List.set_cons_zero, List.set_cons_succ]
        refine lastG (by kernel_rfl) rfl (by kernel_rfl) (fun K hK => ?_)
        go_simp
        clear f4 hc4 hb4
        have HB7 := Lib.hid (HB4.out.setCell (p := ⟨mb, 0, none⟩) HM6.out.mb (.slice v4A (k + 1) v4c))
        refine hK.out _ _ ?_
        clear hK K
        go_wp2
        go_roundw
        case rel =>
          refine ⟨k + 1, cds ++ [⟨nA, cl, nc, cF⟩], _, by omega, by go_num, HN4.out, by rw [List.length_append, HR.out.2.2.2.2]; rfl, Lib.hid (fun t ht => ?_), HB7.out⟩
          rcases getD_snoc cds ⟨nA, cl, nc, cF⟩ cdd t (by rw [List.length_append, HR.out.2.2.2.2]; simpa using ht) with ⟨h1, h2⟩ | ⟨h1, h2⟩
          · rw [h2]; exact HC1.out t (by rw [HR.out.2.2.2.2] at h1; exact h1)
          · rw [h2, h1, HR.out.2.2.2.2, HCD.out]; exact ⟨rfl, rfl, ⟨hnc, own_capm HC6.out, HR.out.2.2.2.1.ins⟩⟩
        case measure => simp [intOf]; omega
      · obtain rfl : n = k := by omega
        have hk1 : ¬ (n : Int) < (n : Int) := by omega
        have HF := Lib.hid (And.intro hM1 (And.intro hcl hB1))
        clear hM1 hcl hB1
        go_wp2
        go_ret2
        refine ⟨⟨mb, cds, 0, m⟩, rfl, ⟨rfl, HF.out.2.1, HC1.out⟩, ?_, by rw [HXB.out]; exact HF.out.2.2⟩
        have := HF.out.1.inv
        rw [HXB.out]
        exact this
end Go.Proofs.YtjmnogpnjombgaaDoor
