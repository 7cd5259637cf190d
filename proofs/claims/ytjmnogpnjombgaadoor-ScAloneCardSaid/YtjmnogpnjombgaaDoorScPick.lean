/- sc.Machine: Pick. -/
import Derived.Test.YtjmnogpnjombgaaDoorScPort
namespace Go.Proofs.YtjmnogpnjombgaaDoor
open Go.ChangeShapes Go.WideShapes Go.ChangeAt Go.RowKit Go.Deep
set_option linter.unusedVariables false
set_option maxRecDepth 100000
set_option linter.unusedSimpArgs false

/-- core.Step over the machine. -/
theorem sc_step {B : MB} (hB : MBok B) {s : Mst} {own : Nat → Prop} {W Wc : World} {X : List Bx} (hX : MovesX scL B s own W Wc X) (hs : MOk B s) (hc : sCan B 3 s) (hlo : ∀ i, own i → 2 ≤ i) (hT : Tab W) (t : Nat) (ht : t < B.codes.length) (th : Th) (cd : Cd) (hth : s.ths.getD t tha = th) (hcd : B.codes.getD t cdd = cd) :
    Calls Tryd.prog 17 #[.agg th.cells.toArray, cd.val, .agg ((sPv B).arr B.m)] Wc fun e W' => e = .returned (.agg (thArr (stepR (sOps B) s th cd).1)) ∧ MovesX scL B (stepR (sOps B) s th cd).2 own W W' X := by
  subst hth hcd
  have hT' := hX.tab hlo hT
  refine hX.call (R := fun e => e = .returned (.agg (thArr _))) (fun own1 h1 => ?_)
  have hca : (B.codes.getD t cdd).At Wc := by
    obtain ⟨V, bcs, hp⟩ := h1
    exact (hp.codeAt ht).choose_spec.choose_spec.2.2.2.2
  exact step_any (sc_port B) 0 s own1 (s.ths.getD t tha) (B.codes.getD t cdd) Wc h1 hT' hca (hB.cods _ (getD_mem ht)) (by show (B.m : Int) ≤ _; have := hB.m; omega) (hs.getTh t) hc

set_option maxHeartbeats 4000000 in
theorem spick_step (B : MB) (hB : MBok B) (s : Mst) (hs : MOk B s) (hc : mCan B 3 s) (own : Nat → Prop) (W : World) (hI : MInv scL B s own W) (hT : Tab W) (w : Nat) (hw : w < s.ths.length) :
    Calls Tryd.prog 23 #[.pointer (some ⟨B.mb, 0, none⟩), .agg #[.int .i64 0, .int .i64 (w : Int)]] W fun e W' => (∃ u, e = .returned u) ∧ Moves (MInv scL B) (sStep B { s with who := (w : Int) } w) own W W' := by
  have hlo := hI.lo
  have hX0 := (MovesX.start hI).alloc 67 #[.int .i64 0, .int .i64 (w : Int)]
  obtain ⟨own1, V, bcs, h1⟩ := hX0.parts
  obtain ⟨g, cap, e1, hgc, hgm, _⟩ := h1.thAt hw
  obtain ⟨mA, mcap, e3, hmc, hmm⟩ := h1.memv
  have c1 : (W.alloc (.cells #[.int .i64 0, .int .i64 (w : Int)] 67)).cell? ⟨B.mb, 1, none⟩ = some (.slice (some ⟨g, 0, none⟩) s.ths.length cap) := by rw [← e1]; exact h1.cell (j := 1) (by decide) rfl
  have c2 : (W.alloc (.cells #[.int .i64 0, .int .i64 (w : Int)] 67)).cell? ⟨B.mb, 2, none⟩ = some (.slice mA B.m mcap) := by rw [← e3]; exact h1.cell (j := 3) (by decide) rfl
  have c5 : (W.alloc (.cells #[.int .i64 0, .int .i64 (w : Int)] 67)).cell? ⟨B.mb, 5, none⟩ = some (.int .i64 s.who) := (h1.blk.cell 5).trans rfl
  have f5 := h1.blk.frozen 5
  have hw0 : ¬ (w : Int) < 0 := by omega
  have hw1 : ¬ (s.ths.length : Int) ≤ (w : Int) := by omega
  have hx := hX0.blk
  obtain ⟨xb, hxb⟩ : ∃ xb, W.heap.size = xb := ⟨_, rfl⟩
  have hne : xb ≠ B.mb := by
    have := hI.lt B.mb (by obtain ⟨V, bcs, h⟩ := hI; exact h.mb)
    omega
  have HX := Lib.hid hX0
  have HB := Lib.hid hB
  have HH := Lib.hid (And.intro hs (And.intro hc (And.intro hlo (And.intro hT hI))))
  clear hB h1 e1 e3 hI hs hc hlo hT hX0 hgc hgm hmc hmm
  go_enter Tryd.func23, Tryd.ntmps23
  go_wp2
  rw [hxb] at hx HX
  try rw [hxb]
  have x0 : (W.alloc (.cells #[.int .i64 0, .int .i64 (w : Int)] 67)).cell? ⟨xb, 0, none⟩ = some (.int .i64 0) := hx.cell 0
  have x1 : (W.alloc (.cells #[.int .i64 0, .int .i64 (w : Int)] 67)).cell? ⟨xb, 1, none⟩ = some (.int .i64 (w : Int)) := hx.cell 1
  clear hx hxb
  generalize W.alloc (.cells #[.int .i64 0, .int .i64 (w : Int)] 67) = W1 at c1 c2 c5 f5 x0 x1 HX ⊢
  go_quiet (fail)
  go_wp2
  have hX1 := ((HX.out.drewN nq).bind (fun own1 h1 => by obtain ⟨V, bcs, h1⟩ := h1; exact h1.setWho 5 (w : Int) rfl : ∀ own1, MInv scL B s own1 _ → Moves (MInv scL B) { s with who := (w : Int) } own1 _ _)).alloc 51 ((sPv B).arr B.m)
  have hpb : ((W1.drewN nq).setCell ⟨B.mb, 5, none⟩ (.int .i64 (w : Int))).heap.size = W1.heap.size := by simp [World.setCell]
  try rw [hpb]
  rw [hpb] at hX1
  obtain ⟨pb, hpe⟩ : ∃ pb, W1.heap.size = pb := ⟨_, rfl⟩
  rw [hpe] at hX1
  try rw [hpe]
  clear c1 c2 c5 f5 x0 x1 HX hpb hpe
  change MovesX _ _ _ _ _ (((W1.drewN nq).setCell ⟨B.mb, 5, none⟩ (.int .i64 (w : Int))).alloc (.cells #[.int .i64 (B.m : Int), .func (.func 75) #[.pointer (some ⟨B.mb, 0, none⟩)] #[], .func (.func 76) #[] #[], .func (.func 77) #[.pointer (some ⟨B.mb, 0, none⟩)] #[], .func (.func 76) #[] #[], .func (.func 78) #[] #[], .func (.func 79) #[.pointer (some ⟨B.mb, 0, none⟩)] #[], .func (.func 80) #[.pointer (some ⟨B.mb, 0, none⟩)] #[], .func (.func 81) #[.pointer (some ⟨B.mb, 0, none⟩)] #[], .func (.func 78) #[] #[], .func (.func 82) #[.pointer (some ⟨B.mb, 0, none⟩)] #[]] 51)) _ at hX1
  generalize ((W1.drewN nq).setCell ⟨B.mb, 5, none⟩ (.int .i64 (w : Int))).alloc (.cells #[.int .i64 (B.m : Int), .func (.func 75) #[.pointer (some ⟨B.mb, 0, none⟩)] #[], .func (.func 76) #[] #[], .func (.func 77) #[.pointer (some ⟨B.mb, 0, none⟩)] #[], .func (.func 76) #[] #[], .func (.func 78) #[] #[], .func (.func 79) #[.pointer (some ⟨B.mb, 0, none⟩)] #[], .func (.func 80) #[.pointer (some ⟨B.mb, 0, none⟩)] #[], .func (.func 81) #[.pointer (some ⟨B.mb, 0, none⟩)] #[], .func (.func 78) #[] #[], .func (.func 82) #[.pointer (some ⟨B.mb, 0, none⟩)] #[]] 51) = Wc at hX1 ⊢
  obtain ⟨s1, hs1⟩ : ∃ s1 : Mst, ({ s with who := (w : Int) } : Mst) = s1 := ⟨_, rfl⟩
  rw [hs1] at hX1
  have hk1 : MOk B s1 ∧ sCan B 3 s1 ∧ w < s1.ths.length ∧ s1.ths.length = s.ths.length := by
    subst hs1
    exact ⟨HH.out.1.who _, ⟨⟨HH.out.2.1.evs, HH.out.2.1.slp, HH.out.2.1.who, HH.out.2.1.buf, HH.out.2.1.t8⟩, by show (0 : Int) ≤ (w : Int); omega, by show (w : Int) < (s.ths.length : Int); omega⟩, hw, rfl⟩
  have HK := Lib.hid hk1
  have HS := Lib.hid hs1
  have hw2 := hk1.2.2.1
  have HX := Lib.hid hX1
  obtain ⟨th, hth⟩ : ∃ th, s1.ths.getD w tha = th := ⟨_, rfl⟩
  obtain ⟨cd, hcd⟩ : ∃ cd, B.codes.getD w cdd = cd := ⟨_, rfl⟩
  have HT := Lib.hid (And.intro hth hcd)
  clear hk1 hs1 hX1 hth hcd
  go_cut [5] (fun v wx => ∃ ub, v = .pointer (some ⟨ub, 0, none⟩) ∧ ub ≠ pb ∧ ub ≠ xb ∧ MovesX scL B (stepR (sOps B) s1 th cd).2 own W wx [⟨ub, 25, thArr (stepR (sOps B) s1 th cd).1⟩, ⟨pb, 51, (sPv B).arr B.m⟩, ⟨xb, 67, #[.int .i64 0, .int .i64 (w : Int)]⟩])
  case first =>
    have hX := HX.out.drew
    obtain ⟨own1, V, bcs, h1⟩ := hX.parts
    have hwc : w < B.codes.length := by have := HK.out.1.nt; omega
    have hbm := h1.blt
    obtain ⟨g, cap, e1, hgc, hgm, hra, _, _, hog, _⟩ := h1.thAt hw2
    obtain ⟨gc, cc, e0, hcc, hcm, hcell, _⟩ := h1.codeAt hwc
    have c1 : Wc.drew.cell? ⟨B.mb, 1, none⟩ = some (.slice (some ⟨g, 0, none⟩) s1.ths.length cap) := by rw [← e1]; exact h1.cell (j := 1) (by decide) rfl
    have c0 : Wc.drew.cell? ⟨B.mb, 0, none⟩ = some (.slice (some ⟨gc, 0, none⟩) B.codes.length cc) := by rw [← e0]; exact h1.cell (j := 0) (by decide) rfl
    have hgl := (h1.lo g hog).2
    have hgcl : gc < Wc.drew.heap.size := (h1.lo gc (h1.vb 0 (by decide) gc (by rw [e0]; rfl))).2
    rw [HT.out.1] at hra
    rw [HT.out.2] at hcell
    have hpk := hX.tail.blk
    have hpo := hX.blk
    have x1 : Wc.drew.cell? ⟨xb, 1, none⟩ = some (.int .i64 (w : Int)) := hpk.cell 1
    have hw0 : (0 : Int) ≤ (w : Int) := by omega
    have hw3 : (w : Int) < (s1.ths.length : Int) := by omega
    have hw4 : (w : Int) < (B.codes.length : Int) := by omega
    have HF := Lib.hid (And.intro c0 (And.intro c1 (And.intro x1 (And.intro hra (And.intro hcell (And.intro hpo (And.intro hbm (And.intro hgl (And.intro hgcl hpk.lt)))))))))
    have HX3 := Lib.hid hX
    clear h1 e1 e0 hgc hgm hcc hcm c0 c1 x1 hra hcell hpo hbm hgl hgcl hpk hX hog
    refine startG (fun W' => Below Wc.drew.heap.size Wc.drew W') 17 (by kernel_rfl) ?_
    generalize Wc.drew = W0 at HF HX3 ⊢
    have hH : Below W0.heap.size W0 W0 := Below.refl _ _
    refine takeG0 (i := 0) (v := .pointer (some ⟨B.mb, 0, none⟩)) rfl (by kernel_rfl) (by kernel_rfl) (by kernel_rfl) (by kernel_rfl) (fun _ _ _ h => h) (Or.inl ⟨by rfl, fun W hW => by go_simp⟩) hH ?_
    simp only [Act.put, List.getElem_toArray, List.getElem_cons_zero, List.getElem_cons_succ, List.setIfInBounds_toArray, List.set_cons_zero, List.set_cons_succ]
    refine takeG0 (i := 1) (v := .pointer (some ⟨B.mb, 0, none⟩)) rfl (by kernel_rfl) (by kernel_rfl) (by kernel_rfl) (by kernel_rfl) (fun _ _ _ h => h) (Or.inl ⟨by rfl, fun W hW => by go_simp⟩) hH ?_
    simp only [Act.put, List.getElem_toArray, List.getElem_cons_zero, List.getElem_cons_succ, List.setIfInBounds_toArray, List.set_cons_zero, List.set_cons_succ]
    refine takeG0 (i := 2) (v := .pointer (some ⟨B.mb, 1, none⟩)) rfl (by kernel_rfl) (by kernel_rfl) (by kernel_rfl) (by kernel_rfl) (fun _ _ _ h => h) (Or.inl ⟨by rfl, fun W hW => by go_simp⟩) hH ?_
    simp only [Act.put, List.getElem_toArray, List.getElem_cons_zero, List.getElem_cons_succ, List.setIfInBounds_toArray, List.set_cons_zero, List.set_cons_succ]
    refine takeT (i := 3) (v := .slice (some ⟨g, 0, none⟩) s1.ths.length cap) rfl (by kernel_rfl) (by kernel_rfl) (by kernel_rfl) (by kernel_rfl) (fun _ _ _ h => h) (Or.inl ⟨by rfl, fun W hW => by have q0 := keepAt hW HF.out.2.2.2.2.2.2.1 HF.out.2.1; go_simp⟩) hH ?_
    simp only [Act.put, List.getElem_toArray, List.getElem_cons_zero, List.getElem_cons_succ, List.setIfInBounds_toArray, List.set_cons_zero, List.set_cons_succ]
    refine takeG0 (i := 4) (v := .pointer (some ⟨xb, 1, none⟩)) rfl (by kernel_rfl) (by kernel_rfl) (by kernel_rfl) (by kernel_rfl) (fun _ _ _ h => h) (Or.inl ⟨by rfl, fun W hW => by go_simp⟩) hH ?_
    simp only [Act.put, List.getElem_toArray, List.getElem_cons_zero, List.getElem_cons_succ, List.setIfInBounds_toArray, List.set_cons_zero, List.set_cons_succ]
    refine takeT (i := 5) (v := .int .i64 (w : Int)) rfl (by kernel_rfl) (by kernel_rfl) (by kernel_rfl) (by kernel_rfl) (fun _ _ _ h => h) (Or.inl ⟨by rfl, fun W hW => by have q0 := keepAt hW HF.out.2.2.2.2.2.2.2.2.2 HF.out.2.2.1; go_simp⟩) hH ?_
    simp only [Act.put, List.getElem_toArray, List.getElem_cons_zero, List.getElem_cons_succ, List.setIfInBounds_toArray, List.set_cons_zero, List.set_cons_succ]
    refine takeG0 (i := 6) (v := .pointer (some ⟨g, w * 10, none⟩)) rfl (by kernel_rfl) (by kernel_rfl) (by kernel_rfl) (by kernel_rfl) (fun _ _ _ h => h) (Or.inl ⟨by rfl, fun W hW => by go_simp⟩) hH ?_
    simp only [Act.put, List.getElem_toArray, List.getElem_cons_zero, List.getElem_cons_succ, List.setIfInBounds_toArray, List.set_cons_zero, List.set_cons_succ]
    refine takeT (i := 7) (v := .agg th.cells.toArray) rfl (by kernel_rfl) (by kernel_rfl) (by kernel_rfl) (by kernel_rfl) (fun _ _ _ h => h) (yieldsIf_load_mid (by rfl) 25 (.tmp 52) rfl g (w * 10) rfl th.cells _ (fun W hW => range_below HF.out.2.2.2.1 HF.out.2.2.2.2.2.2.2.1 hW) Tryd.underlying25 rfl th_infoL) hH ?_
    simp only [Act.put, List.getElem_toArray, List.getElem_cons_zero, List.getElem_cons_succ, List.setIfInBounds_toArray, List.set_cons_zero, List.set_cons_succ]
    refine takeG0 (i := 8) (v := .pointer (some ⟨B.mb, 0, none⟩)) rfl (by kernel_rfl) (by kernel_rfl) (by kernel_rfl) (by kernel_rfl) (fun _ _ _ h => h) (Or.inl ⟨by rfl, fun W hW => by go_simp⟩) hH ?_
    simp only [Act.put, List.getElem_toArray, List.getElem_cons_zero, List.getElem_cons_succ, List.setIfInBounds_toArray, List.set_cons_zero, List.set_cons_succ]
    refine takeG0 (i := 9) (v := .pointer (some ⟨B.mb, 0, none⟩)) rfl (by kernel_rfl) (by kernel_rfl) (by kernel_rfl) (by kernel_rfl) (fun _ _ _ h => h) (Or.inl ⟨by rfl, fun W hW => by go_simp⟩) hH ?_
    simp only [Act.put, List.getElem_toArray, List.getElem_cons_zero, List.getElem_cons_succ, List.setIfInBounds_toArray, List.set_cons_zero, List.set_cons_succ]
    refine takeG0 (i := 10) (v := .pointer (some ⟨B.mb, 0, none⟩)) rfl (by kernel_rfl) (by kernel_rfl) (by kernel_rfl) (by kernel_rfl) (fun _ _ _ h => h) (Or.inl ⟨by rfl, fun W hW => by go_simp⟩) hH ?_
    simp only [Act.put, List.getElem_toArray, List.getElem_cons_zero, List.getElem_cons_succ, List.setIfInBounds_toArray, List.set_cons_zero, List.set_cons_succ]
    refine takeT (i := 11) (v := .slice (some ⟨gc, 0, none⟩) B.codes.length cc) rfl (by kernel_rfl) (by kernel_rfl) (by kernel_rfl) (by kernel_rfl) (fun _ _ _ h => h) (Or.inl ⟨by rfl, fun W hW => by have q0 := keepAt hW HF.out.2.2.2.2.2.2.1 HF.out.1; go_simp⟩) hH ?_
    simp only [Act.put, List.getElem_toArray, List.getElem_cons_zero, List.getElem_cons_succ, List.setIfInBounds_toArray, List.set_cons_zero, List.set_cons_succ]
    refine takeG0 (i := 12) (v := .pointer (some ⟨xb, 1, none⟩)) rfl (by kernel_rfl) (by kernel_rfl) (by kernel_rfl) (by kernel_rfl) (fun _ _ _ h => h) (Or.inl ⟨by rfl, fun W hW => by go_simp⟩) hH ?_
    simp only [Act.put, List.getElem_toArray, List.getElem_cons_zero, List.getElem_cons_succ, List.setIfInBounds_toArray, List.set_cons_zero, List.set_cons_succ]
    refine takeT (i := 13) (v := .int .i64 (w : Int)) rfl (by kernel_rfl) (by kernel_rfl) (by kernel_rfl) (by kernel_rfl) (fun _ _ _ h => h) (Or.inl ⟨by rfl, fun W hW => by have q0 := keepAt hW HF.out.2.2.2.2.2.2.2.2.2 HF.out.2.2.1; go_simp⟩) hH ?_
    simp only [Act.put, List.getElem_toArray, List.getElem_cons_zero, List.getElem_cons_succ, List.setIfInBounds_toArray, List.set_cons_zero, List.set_cons_succ]
    refine takeG0 (i := 14) (v := .pointer (some ⟨gc, w, none⟩)) rfl (by kernel_rfl) (by kernel_rfl) (by kernel_rfl) (by kernel_rfl) (fun _ _ _ h => h) (Or.inl ⟨by rfl, fun W hW => by go_simp⟩) hH ?_
    simp only [Act.put, List.getElem_toArray, List.getElem_cons_zero, List.getElem_cons_succ, List.setIfInBounds_toArray, List.set_cons_zero, List.set_cons_succ]
    refine takeT (i := 15) (v := cd.val) rfl (by kernel_rfl) (by kernel_rfl) (by kernel_rfl) (by kernel_rfl) (fun _ _ _ h => h) (Or.inl ⟨by rfl, fun W hW => by have q0 := keepAt hW HF.out.2.2.2.2.2.2.2.2.1 HF.out.2.2.2.2.1; go_simp⟩) hH ?_
    simp only [Act.put, List.getElem_toArray, List.getElem_cons_zero, List.getElem_cons_succ, List.setIfInBounds_toArray, List.set_cons_zero, List.set_cons_succ]
    refine takeT (i := 16) (v := .agg ((sPv B).arr B.m)) rfl (by kernel_rfl) (by kernel_rfl) (by kernel_rfl) (by kernel_rfl) (fun _ _ _ h => h) (yields_row (by rfl) 51 (.tmp 4) rfl pb rfl ((sPv B).arr B.m) (fun _ hS => run_row _ _ _ _ _ _ (HF.out.2.2.2.2.2.1.below hS HF.out.2.2.2.2.2.1.lt) Tryd.underlying51 rfl port_info)) hH ?_
    simp only [Act.put, List.getElem_toArray, List.getElem_cons_zero, List.getElem_cons_succ, List.setIfInBounds_toArray, List.set_cons_zero, List.set_cons_succ]
    refine manyG (rs := [17, 18]) (by kernel_rfl) (by simp) (AllG.consM rfl (fun K hK => ?_) (AllG.cons (i := 18) rfl (fun K hK => ?_) AllG.nil))
    · go_simp
      have hS : Calls Tryd.prog 17 #[.agg th.cells.toArray, cd.val, .agg ((sPv B).arr B.m)] W0 _ := sc_step HB.out HX3.out HK.out.1 HK.out.2.1 HH.out.2.2.1 HH.out.2.2.2.1 w hwc th cd HT.out.1 HT.out.2
      with_reducible refine hS.mono ?_
      rintro e W5 ⟨rfl, hX5⟩
      refine hK.out _ _ ?_
      clear hK K hS
      try simp only [Act.put, List.getElem_toArray, List.getElem_cons_zero, List.getElem_cons_succ, List.setIfInBounds_toArray, List.set_cons_zero, List.set_cons_succ]
      refine onlyL (i := 18) (by kernel_rfl) (by kernel_rfl) rfl (fun K hK => ?_)
      go_simp
      have hX6 := hX5.alloc 25 th0
      unfold th0 at hX6
      obtain ⟨ub, hub⟩ : ∃ ub, W5.heap.size = ub := ⟨_, rfl⟩
      have hub2 : pb < ub ∧ xb < ub := by have h1 := hX5.blk.lt; have h2 := hX5.tail.blk.lt; dsimp only at h1 h2; omega
      rw [hub] at hX6
      try rw [hub]
      refine hK.out _ _ ?_
      clear hK K hub
      try simp only [Act.put, List.getElem_toArray, List.getElem_cons_zero, List.getElem_cons_succ, List.setIfInBounds_toArray, List.set_cons_zero, List.set_cons_succ]
      generalize W5.alloc (.cells #[.int .i64 0, .int .u32 0, .int .u32 0, .int .u32 0, .int .u32 0, .int .u32 0, .int .u32 0, .int .u32 0, .int .u32 0, .int .i64 0] 25) = W6 at hX6 ⊢
      clear hX5
      refine lastL (i := 19) (by kernel_rfl) (by kernel_rfl) rfl (by kernel_rfl) (fun K hK => ?_)
      refine step_store_row rfl 25 (.tmp 5) (.tmp 63) rfl _ rfl (thArr (stepR (sOps B) s1 th cd).1) rfl 25 _ hX6.blk rfl th_info (th_one _) ?_
      intro W9 hb9 hg9
      have HP := Lib.hid (hX6.put (cs := thArr (stepR (sOps B) s1 th cd).1) (fun y hy => by simp at hy; rcases hy with rfl | rfl <;> dsimp only <;> omega) hb9 hg9)
      refine hK.out _ _ ?_
      clear hK K
      go_wp2_with fail
      go_meet
      case rel => exact ⟨ub, rfl, by omega, by omega, HP.out⟩
    · go_simp
      have hX4 := HX3.out.alloc 25 th0
      unfold th0 at hX4
      obtain ⟨ub, hub⟩ : ∃ ub, W0.heap.size = ub := ⟨_, rfl⟩
      have hub2 : pb < ub ∧ xb < ub := by have h1 := HX3.out.blk.lt; have h2 := HX3.out.tail.blk.lt; dsimp only at h1 h2; omega
      rw [hub] at hX4
      try rw [hub]
      have hal := hH.alloc hH.size (.cells #[.int .i64 0, .int .u32 0, .int .u32 0, .int .u32 0, .int .u32 0, .int .u32 0, .int .u32 0, .int .u32 0, .int .u32 0, .int .i64 0] 25)
      refine hK.out _ _ hal (fun _ => ?_)
      clear hK K hub hal
      try simp only [Act.put, List.getElem_toArray, List.getElem_cons_zero, List.getElem_cons_succ, List.setIfInBounds_toArray, List.set_cons_zero, List.set_cons_succ]
      generalize W0.alloc (.cells #[.int .i64 0, .int .u32 0, .int .u32 0, .int .u32 0, .int .u32 0, .int .u32 0, .int .u32 0, .int .u32 0, .int .u32 0, .int .i64 0] 25) = W5 at hX4 ⊢
      refine onlyM (by kernel_rfl) rfl (fun K hK => ?_)
      go_simp
      have hS : Calls Tryd.prog 17 #[.agg th.cells.toArray, cd.val, .agg ((sPv B).arr B.m)] W5 _ := sc_step HB.out hX4 HK.out.1 HK.out.2.1 HH.out.2.2.1 HH.out.2.2.2.1 w hwc th cd HT.out.1 HT.out.2
      with_reducible refine hS.mono ?_
      rintro e W6 ⟨rfl, hX6⟩
      refine hK.out _ _ ?_
      clear hK K hS
      try simp only [Act.put, List.getElem_toArray, List.getElem_cons_zero, List.getElem_cons_succ, List.setIfInBounds_toArray, List.set_cons_zero, List.set_cons_succ]
      clear hX4
      refine lastL (i := 19) (by kernel_rfl) (by kernel_rfl) rfl (by kernel_rfl) (fun K hK => ?_)
      refine step_store_row rfl 25 (.tmp 5) (.tmp 63) rfl _ rfl (thArr (stepR (sOps B) s1 th cd).1) rfl 25 _ hX6.blk rfl th_info (th_one _) ?_
      intro W9 hb9 hg9
      have HP := Lib.hid (hX6.put (cs := thArr (stepR (sOps B) s1 th cd).1) (fun y hy => by simp at hy; rcases hy with rfl | rfl <;> dsimp only <;> omega) hb9 hg9)
      refine hK.out _ _ ?_
      clear hK K
      go_wp2_with fail
      go_meet
      case rel => exact ⟨ub, rfl, by omega, by omega, HP.out⟩
  case rest =>
    obtain ⟨ub, rfl, hup, hux, hX⟩ := hcut
    obtain ⟨s2, hs2⟩ : ∃ s2, (stepR (sOps B) s1 th cd).2 = s2 := ⟨_, rfl⟩
    obtain ⟨t2, ht2⟩ : ∃ t2, (stepR (sOps B) s1 th cd).1 = t2 := ⟨_, rfl⟩
    have hnt : s2.ths.length = s1.ths.length := by
      have hk := HK.out
      have hB' := HB.out
      have hw' : w < B.codes.length := by have := hk.1.nt; omega
      have hwho : s1.who = (w : Int) := by rw [← HS.out]
      have := (keep_step (sc_keep B hB' (w : Int) (by omega) (by omega)) (s := s1) ⟨hk.1, hwho⟩ (hk.1.getTh w) (hB'.cods _ (getD_mem (l := B.codes) (d := cdd) hw'))).2.1.nt
      rw [HT.out.1, HT.out.2, hs2] at this
      rw [this, hk.1.nt]
    have HE := Lib.hid (show sStep B s1 w = { s2 with ths := s2.ths.set w t2 } from by
      unfold sStep
      rw [HT.out.1, HT.out.2]
      show ({ (stepR (sOps B) s1 th cd).2 with ths := (stepR (sOps B) s1 th cd).2.ths.set w (stepR (sOps B) s1 th cd).1 } : Mst) = _
      rw [hs2, ht2])
    rw [hs2, ht2] at hX
    replace hX := hX.drew
    have hw5 : w < s2.ths.length := by omega
    obtain ⟨own1, V, bcs, h1⟩ := hX.parts
    obtain ⟨g, cap, e1, hgc, hgm, hra, _, hgn, hog, _⟩ := h1.thAt hw5
    have hbm := h1.blt
    have c1 : wc.drew.cell? ⟨B.mb, 1, none⟩ = some (.slice (some ⟨g, 0, none⟩) s2.ths.length cap) := by rw [← e1]; exact h1.cell (j := 1) (by decide) rfl
    have hub := hX.blk
    have x1 : wc.drew.cell? ⟨xb, 1, none⟩ = some (.int .i64 (w : Int)) := hX.tail.tail.blk.cell 1
    have hxl := hX.tail.tail.blk.lt
    have hw0 : (0 : Int) ≤ (w : Int) := by omega
    have hw3 : (w : Int) < (s2.ths.length : Int) := by omega
    have HF := Lib.hid (And.intro c1 (And.intro x1 (And.intro hub (And.intro hbm hxl))))
    have HM := Lib.hid (show ∀ own1, MInv scL B s2 own1 wc.drew → Moves (MInv scL B) { s2 with ths := s2.ths.set w t2 } own1 wc.drew (wc.drew.setCells g (w * 10) t2.cells) ∧ wc.drew.there g (w * 10) 10 from fun own1 hI => by
      obtain ⟨V', bcs', h'⟩ := hI
      obtain ⟨g', cap', e', _, _, _, hth', _, _, _, hput', _⟩ := h'.thAt hw5
      have c1' : wc.drew.cell? ⟨B.mb, 1, none⟩ = some (.slice (some ⟨g', 0, none⟩) s2.ths.length cap') := by rw [← e']; exact h'.cell (j := 1) (by decide) rfl
      have e := Option.some.inj (c1.symm.trans c1')
      injection e with e _ _
      injection e with e
      injection e with e _ _
      subst e
      exact ⟨hput' t2, hth'⟩)
    have HX4 := Lib.hid hX
    clear h1 e1 hgc hgm hra hgn hog hbm c1 hub x1 hxl hs2 ht2 hnt hX hw5 HX
    go_wp2
    refine startG (fun W' => Below wc.drew.heap.size wc.drew W') 8 (by kernel_rfl) ?_
    generalize wc.drew = W0 at HF HM HX4 ⊢
    have hH : Below W0.heap.size W0 W0 := Below.refl _ _
    refine takeG0 (i := 0) (v := .pointer (some ⟨B.mb, 0, none⟩)) rfl (by kernel_rfl) (by kernel_rfl) (by kernel_rfl) (by kernel_rfl) (fun _ _ _ h => h) (Or.inl ⟨by rfl, fun W hW => by go_simp⟩) hH ?_
    simp only [Act.put, List.getElem_toArray, List.getElem_cons_zero, List.getElem_cons_succ, List.setIfInBounds_toArray, List.set_cons_zero, List.set_cons_succ]
    refine takeG0 (i := 1) (v := .pointer (some ⟨B.mb, 0, none⟩)) rfl (by kernel_rfl) (by kernel_rfl) (by kernel_rfl) (by kernel_rfl) (fun _ _ _ h => h) (Or.inl ⟨by rfl, fun W hW => by go_simp⟩) hH ?_
    simp only [Act.put, List.getElem_toArray, List.getElem_cons_zero, List.getElem_cons_succ, List.setIfInBounds_toArray, List.set_cons_zero, List.set_cons_succ]
    refine takeG0 (i := 2) (v := .pointer (some ⟨B.mb, 1, none⟩)) rfl (by kernel_rfl) (by kernel_rfl) (by kernel_rfl) (by kernel_rfl) (fun _ _ _ h => h) (Or.inl ⟨by rfl, fun W hW => by go_simp⟩) hH ?_
    simp only [Act.put, List.getElem_toArray, List.getElem_cons_zero, List.getElem_cons_succ, List.setIfInBounds_toArray, List.set_cons_zero, List.set_cons_succ]
    refine takeT (i := 3) (v := .slice (some ⟨g, 0, none⟩) s2.ths.length cap) rfl (by kernel_rfl) (by kernel_rfl) (by kernel_rfl) (by kernel_rfl) (fun _ _ _ h => h) (Or.inl ⟨by rfl, fun W hW => by have q0 := keepAt hW HF.out.2.2.2.1 HF.out.1; go_simp⟩) hH ?_
    simp only [Act.put, List.getElem_toArray, List.getElem_cons_zero, List.getElem_cons_succ, List.setIfInBounds_toArray, List.set_cons_zero, List.set_cons_succ]
    refine takeG0 (i := 4) (v := .pointer (some ⟨xb, 1, none⟩)) rfl (by kernel_rfl) (by kernel_rfl) (by kernel_rfl) (by kernel_rfl) (fun _ _ _ h => h) (Or.inl ⟨by rfl, fun W hW => by go_simp⟩) hH ?_
    simp only [Act.put, List.getElem_toArray, List.getElem_cons_zero, List.getElem_cons_succ, List.setIfInBounds_toArray, List.set_cons_zero, List.set_cons_succ]
    refine takeT (i := 5) (v := .int .i64 (w : Int)) rfl (by kernel_rfl) (by kernel_rfl) (by kernel_rfl) (by kernel_rfl) (fun _ _ _ h => h) (Or.inl ⟨by rfl, fun W hW => by have q0 := keepAt hW HF.out.2.2.2.2 HF.out.2.1; go_simp⟩) hH ?_
    simp only [Act.put, List.getElem_toArray, List.getElem_cons_zero, List.getElem_cons_succ, List.setIfInBounds_toArray, List.set_cons_zero, List.set_cons_succ]
    refine takeT (i := 6) (v := .agg (thArr t2)) rfl (by kernel_rfl) (by kernel_rfl) (by kernel_rfl) (by kernel_rfl) (fun _ _ _ h => h) (yields_row (by rfl) 25 (.tmp 5) rfl ub rfl (thArr t2) (fun _ hS => run_row _ _ _ _ _ _ (HF.out.2.2.1.below hS HF.out.2.2.1.lt) Tryd.underlying25 rfl th_info)) hH ?_
    simp only [Act.put, List.getElem_toArray, List.getElem_cons_zero, List.getElem_cons_succ, List.setIfInBounds_toArray, List.set_cons_zero, List.set_cons_succ]
    refine takeG0 (i := 7) (v := .pointer (some ⟨g, w * 10, none⟩)) rfl (by kernel_rfl) (by kernel_rfl) (by kernel_rfl) (by kernel_rfl) (fun _ _ _ h => h) (Or.inl ⟨by rfl, fun W hW => by go_simp⟩) hH ?_
    simp only [Act.put, List.getElem_toArray, List.getElem_cons_zero, List.getElem_cons_succ, List.setIfInBounds_toArray, List.set_cons_zero, List.set_cons_succ]
    refine lastG (by kernel_rfl) rfl (by kernel_rfl) (fun K hK => ?_)
    obtain ⟨own3, hI3, ho3, hk3, _⟩ := HX4.out
    refine step_store_mid rfl 25 (.tmp 71) (.tmp 70) rfl g (w * 10) (thArr t2) rfl rfl (HM.out own3 hI3).2 th_info (th_one _) ?_
    have HP := Lib.hid (Moves.after ho3 hk3 (HM.out own3 hI3).1)
    clear hI3 ho3 hk3
    refine hK.out _ _ ?_
    clear hK K
    go_wp2
    go_end0
    exact ⟨⟨_, rfl⟩, by rw [HS.out, HE.out]; exact HP.out⟩

set_option maxHeartbeats 1000000 in
theorem spick_out (B : MB) (s : Mst) (own : Nat → Prop) (W : World) (hI : MInv scL B s own W) (k x : Int) (hx : x < 0 ∨ (s.ths.length : Int) ≤ x) :
    Calls Tryd.prog 23 #[.pointer (some ⟨B.mb, 0, none⟩), .agg #[.int .i64 k, .int .i64 x]] W fun e W' => (∃ u, e = .returned u) ∧ Moves (MInv scL B) s own W W' := by
  have hxx := hx
  clear hx
  have hlo := hI.lo
  have hX0 := (MovesX.start hI).alloc 67 #[.int .i64 k, .int .i64 x]
  obtain ⟨own1, V, bcs, h1⟩ := hX0.parts
  obtain ⟨tA, cap, e1, hgc, hgm⟩ := own_cap (h1.rows 1 (by decide))
  have ecn : cnt B s 1 = s.ths.length := rfl
  rw [ecn] at e1
  have c1 : (W.alloc (.cells #[.int .i64 k, .int .i64 x] 67)).cell? ⟨B.mb, 1, none⟩ = some (.slice tA s.ths.length cap) := by rw [← e1]; exact h1.cell (j := 1) (by decide) rfl
  have c5 : (W.alloc (.cells #[.int .i64 k, .int .i64 x] 67)).cell? ⟨B.mb, 5, none⟩ = some (.int .i64 s.who) := (h1.blk.cell 5).trans rfl
  have f5 := h1.blk.frozen 5
  have hx := hX0.blk
  obtain ⟨xb, hxb⟩ : ∃ xb, W.heap.size = xb := ⟨_, rfl⟩
  have hne : xb ≠ B.mb := by
    have := hI.lt B.mb (by obtain ⟨V, bcs, h⟩ := hI; exact h.mb)
    omega
  have HX := Lib.hid hX0
  clear h1 e1 ecn hI hlo hX0 hgc hgm
  go_enter Tryd.func23, Tryd.ntmps23
  go_wp2
  rw [hxb] at hx HX
  try rw [hxb]
  have x0 : (W.alloc (.cells #[.int .i64 k, .int .i64 x] 67)).cell? ⟨xb, 0, none⟩ = some (.int .i64 k) := hx.cell 0
  have x1 : (W.alloc (.cells #[.int .i64 k, .int .i64 x] 67)).cell? ⟨xb, 1, none⟩ = some (.int .i64 x) := hx.cell 1
  clear hx hxb
  generalize W.alloc (.cells #[.int .i64 k, .int .i64 x] 67) = W1 at c1 c5 f5 x0 x1 HX ⊢
  by_cases h0 : x < 0
  · clear hxx
    go_quiet (fail)
    go_wp2
    exact bodyPost_ret (results_none rfl _ _ _) rfl ⟨⟨_, rfl⟩, (HX.out.drewN _).moves⟩
  · have h1 : (s.ths.length : Int) ≤ x := by omega
    clear hxx
    go_quiet (fail)
    go_wp2
    exact bodyPost_ret (results_none rfl _ _ _) rfl ⟨⟨_, rfl⟩, (HX.out.drewN _).moves⟩

set_option maxHeartbeats 1000000 in
theorem spick_none (B : MB) (s : Mst) (own : Nat → Prop) (W : World) (hI : MInv scL B s own W) (k : Int) (hk0 : k ≠ 0) (hk2 : k ≠ 2) (w : Nat) (hw : w < s.ths.length) :
    Calls Tryd.prog 23 #[.pointer (some ⟨B.mb, 0, none⟩), .agg #[.int .i64 k, .int .i64 (w : Int)]] W fun e W' => (∃ u, e = .returned u) ∧ Moves (MInv scL B) { s with who := (w : Int) } own W W' := by
  have hlo := hI.lo
  have hX0 := (MovesX.start hI).alloc 67 #[.int .i64 k, .int .i64 (w : Int)]
  obtain ⟨own1, V, bcs, h1⟩ := hX0.parts
  obtain ⟨tA, cap, e1, hgc, hgm⟩ := own_cap (h1.rows 1 (by decide))
  have ecn : cnt B s 1 = s.ths.length := rfl
  rw [ecn] at e1
  have c1 : (W.alloc (.cells #[.int .i64 k, .int .i64 (w : Int)] 67)).cell? ⟨B.mb, 1, none⟩ = some (.slice tA s.ths.length cap) := by rw [← e1]; exact h1.cell (j := 1) (by decide) rfl
  have c5 : (W.alloc (.cells #[.int .i64 k, .int .i64 (w : Int)] 67)).cell? ⟨B.mb, 5, none⟩ = some (.int .i64 s.who) := (h1.blk.cell 5).trans rfl
  have f5 := h1.blk.frozen 5
  have hx := hX0.blk
  obtain ⟨xb, hxb⟩ : ∃ xb, W.heap.size = xb := ⟨_, rfl⟩
  have hne : xb ≠ B.mb := by
    have := hI.lt B.mb (by obtain ⟨V, bcs, h⟩ := hI; exact h.mb)
    omega
  have HX := Lib.hid hX0
  clear h1 e1 ecn hI hlo hX0 hgc hgm
  go_enter Tryd.func23, Tryd.ntmps23
  go_wp2
  rw [hxb] at hx HX
  try rw [hxb]
  have x0 : (W.alloc (.cells #[.int .i64 k, .int .i64 (w : Int)] 67)).cell? ⟨xb, 0, none⟩ = some (.int .i64 k) := hx.cell 0
  have x1 : (W.alloc (.cells #[.int .i64 k, .int .i64 (w : Int)] 67)).cell? ⟨xb, 1, none⟩ = some (.int .i64 (w : Int)) := hx.cell 1
  clear hx hxb
  generalize W.alloc (.cells #[.int .i64 k, .int .i64 (w : Int)] 67) = W1 at c1 c5 f5 x0 x1 HX ⊢
  have hw0 : ¬ (w : Int) < 0 := by omega
  have hw1 : ¬ (s.ths.length : Int) ≤ (w : Int) := by omega
  have k0 : (k == 0) = false := by simpa using hk0
  have k2 : (k == 2) = false := by simpa using hk2
  clear hk0 hk2
  go_quiet (fail)
  go_wp2
  go_end0
  exact ⟨⟨_, rfl⟩, ((HX.out.drewN _).bind (fun own1 h1 => by obtain ⟨V, bcs, h1⟩ := h1; exact h1.setWho 5 (w : Int) rfl)).moves⟩

set_option maxHeartbeats 2000000 in
theorem spick_rouse (B : MB) (s : Mst) (own : Nat → Prop) (W : World) (hI : MInv scL B s own W) (hm : s.slp.length ≤ 10000) (hev : s.evs.length + 1 ≤ 1000000000) (w : Nat) (hw : w < s.ths.length) :
    Calls Tryd.prog 23 #[.pointer (some ⟨B.mb, 0, none⟩), .agg #[.int .i64 2, .int .i64 (w : Int)]] W fun e W' => (∃ u, e = .returned u) ∧ Moves (MInv scL B) (rouseM w { s with who := (w : Int) }) own W W' := by
  have hlo := hI.lo
  have hX0 := (MovesX.start hI).alloc 67 #[.int .i64 2, .int .i64 (w : Int)]
  obtain ⟨own1, V, bcs, h1⟩ := hX0.parts
  obtain ⟨tA, cap, e1, hgc, hgm⟩ := own_cap (h1.rows 1 (by decide))
  have ecn : cnt B s 1 = s.ths.length := rfl
  rw [ecn] at e1
  have c1 : (W.alloc (.cells #[.int .i64 2, .int .i64 (w : Int)] 67)).cell? ⟨B.mb, 1, none⟩ = some (.slice tA s.ths.length cap) := by rw [← e1]; exact h1.cell (j := 1) (by decide) rfl
  have c5 : (W.alloc (.cells #[.int .i64 2, .int .i64 (w : Int)] 67)).cell? ⟨B.mb, 5, none⟩ = some (.int .i64 s.who) := (h1.blk.cell 5).trans rfl
  have f5 := h1.blk.frozen 5
  have hx := hX0.blk
  obtain ⟨xb, hxb⟩ : ∃ xb, W.heap.size = xb := ⟨_, rfl⟩
  have hne : xb ≠ B.mb := by
    have := hI.lt B.mb (by obtain ⟨V, bcs, h⟩ := hI; exact h.mb)
    omega
  have HX := Lib.hid hX0
  clear h1 e1 ecn hI hlo hX0 hgc hgm
  go_enter Tryd.func23, Tryd.ntmps23
  go_wp2
  rw [hxb] at hx HX
  try rw [hxb]
  have x0 : (W.alloc (.cells #[.int .i64 2, .int .i64 (w : Int)] 67)).cell? ⟨xb, 0, none⟩ = some (.int .i64 2) := hx.cell 0
  have x1 : (W.alloc (.cells #[.int .i64 2, .int .i64 (w : Int)] 67)).cell? ⟨xb, 1, none⟩ = some (.int .i64 (w : Int)) := hx.cell 1
  clear hx hxb
  generalize W.alloc (.cells #[.int .i64 2, .int .i64 (w : Int)] 67) = W1 at c1 c5 f5 x0 x1 HX ⊢
  have hw0 : ¬ (w : Int) < 0 := by omega
  have hw1 : ¬ (s.ths.length : Int) ≤ (w : Int) := by omega
  go_quiet (fail)
  go_wp2
  have hX1 := (HX.out.drewN nq).bind (fun own1 h1 => by obtain ⟨V, bcs, h1⟩ := h1; exact h1.setWho 5 (w : Int) rfl : ∀ own1, MInv scL B s own1 _ → Moves (MInv scL B) { s with who := (w : Int) } own1 _ _)
  have x1' : ((W1.drewN nq).setCell ⟨B.mb, 5, none⟩ (.int .i64 (w : Int))).cell? ⟨xb, 1, none⟩ = some (.int .i64 (w : Int)) := hX1.blk.cell 1
  clear c1 c5 f5 x0 x1 HX
  generalize (W1.drewN nq).setCell ⟨B.mb, 5, none⟩ (.int .i64 (w : Int)) = Wc at hX1 x1' ⊢
  have HX1 := Lib.hid hX1
  clear hX1
  go_still_tail 5, (by kernel_rfl)
  change wpList _ _ _ _ _ Wc.drew
  have hR : Calls Tryd.prog 83 #[.pointer (some ⟨B.mb, 3, none⟩), .int .i64 (w : Int)] Wc.drew _ := HX1.out.drew.call (s' := (rouseK w { s with who := (w : Int) }).2) (R := fun e => e = .returned (.bool (rouseK w { s with who := (w : Int) }).1)) (fun own1 h1 => by obtain ⟨V, bcs, h1⟩ := h1; exact h1.rouses rfl hm w)
  go_wp2_with fail
  refine hR.mono ?_
  rintro e W2 ⟨rfl, hX2⟩
  clear hR x1'
  unfold rouseK at hX2 ⊢
  by_cases hf : fnd s.slp (w : Int) < s.slp.length
  · rw [if_pos hf] at hX2
    rw [if_pos hf]
    have HFN := Lib.hid (show fnd ({ s with who := (w : Int) } : Mst).slp (w : Int) < ({ s with who := (w : Int) } : Mst).slp.length from hf)
    obtain ⟨s2, hs2⟩ : ∃ s2 : Mst, ({ ({ s with who := (w : Int) } : Mst) with slp := ({ s with who := (w : Int) } : Mst).slp.eraseIdx (fnd ({ s with who := (w : Int) } : Mst).slp (w : Int)) } : Mst) = s2 := ⟨_, rfl⟩
    have h2t : s2.ths = s.ths := by rw [← hs2]
    have h2e : s2.evs = s.evs := by rw [← hs2]
    have h2w : s2.who = (w : Int) := by rw [← hs2]
    have HS := Lib.hid (show ({ ({ s with who := (w : Int) } : Mst) with slp := ({ s with who := (w : Int) } : Mst).slp.eraseIdx (fnd ({ s with who := (w : Int) } : Mst).slp (w : Int)), ths := ({ s with who := (w : Int) } : Mst).ths.set w { ({ s with who := (w : Int) } : Mst).ths.getD w tha with st := 0 } } : Mst) = { s2 with ths := s2.ths.set w { s2.ths.getD w tha with st := 0 } } from by rw [← hs2])
    replace hX2 : MovesX scL B s2 own W W2 [⟨xb, 67, #[.int .i64 2, .int .i64 (w : Int)]⟩] := by rw [← hs2]; exact hX2
    clear hs2
    have HX2 := Lib.hid hX2
    have hw5 : w < s2.ths.length := by rw [h2t]; exact hw
    have hev2 : s2.evs.length + 1 ≤ 1000000000 := by rw [h2e]; exact hev
    have hnt : s2.ths.length = s.ths.length := by rw [h2t]
    have HV := Lib.hid (And.intro hev2 h2w)
    clear hX2 HX1 hf hev h2t h2e hev2 h2w
    go_wp2
    have hX := HX2.out.drew
    obtain ⟨own1, V, bcs, h1⟩ := hX.parts
    obtain ⟨g, cap, e1, hgc, hgm, hra, hth, hgn, hog, _⟩ := h1.thAt hw5
    have hbm := h1.blt
    have c1 : W2.drew.cell? ⟨B.mb, 1, none⟩ = some (.slice (some ⟨g, 0, none⟩) s2.ths.length cap) := by rw [← e1]; exact h1.cell (j := 1) (by decide) rfl
    have x1 : W2.drew.cell? ⟨xb, 1, none⟩ = some (.int .i64 (w : Int)) := hX.blk.cell 1
    have hxl := hX.blk.lt
    have q9 := hra 9 _ rfl
    have f9 := (hth 9 (by decide)).2
    have hgl := (h1.lo g hog).2
    have hw6 : (0 : Int) ≤ (w : Int) := by omega
    have hw3 : (w : Int) < (s2.ths.length : Int) := by omega
    have HF := Lib.hid (And.intro c1 (And.intro x1 (And.intro q9 (And.intro hbm (And.intro hxl (And.intro hgl f9))))))
    have HM := Lib.hid (show ∀ own1, MInv scL B s2 own1 W2.drew → Moves (MInv scL B) { s2 with ths := s2.ths.set w { s2.ths.getD w tha with st := 0 } } own1 W2.drew (W2.drew.setCell ⟨g, w * 10 + 9, none⟩ (.int .i64 0)) from fun own1 hI => by
      obtain ⟨V', bcs', h'⟩ := hI
      obtain ⟨g', cap', e', _, _, _, hth', _, _, _, _, hput'⟩ := h'.thAt hw5
      have c1' : W2.drew.cell? ⟨B.mb, 1, none⟩ = some (.slice (some ⟨g', 0, none⟩) s2.ths.length cap') := by rw [← e']; exact h'.cell (j := 1) (by decide) rfl
      have e := Option.some.inj (c1.symm.trans c1')
      injection e with e _ _
      injection e with e
      injection e with e _ _
      subst e
      exact hput' 0)
    have HX4 := Lib.hid hX
    clear h1 e1 hgc hgm hra hth hgn hog hbm c1 x1 hxl hX hw5 q9 f9 hgl HX2
    refine startG (fun W' => Below W2.drew.heap.size W2.drew W') 8 (by kernel_rfl) ?_
    generalize W2.drew = W0 at HF HM HX4 ⊢
    have hH : Below W0.heap.size W0 W0 := Below.refl _ _
    refine takeG0 (i := 0) (v := .pointer (some ⟨B.mb, 0, none⟩)) rfl (by kernel_rfl) (by kernel_rfl) (by kernel_rfl) (by kernel_rfl) (fun _ _ _ h => h) (Or.inl ⟨by rfl, fun W hW => by go_simp⟩) hH ?_
    simp only [Act.put, List.getElem_toArray, List.getElem_cons_zero, List.getElem_cons_succ, List.setIfInBounds_toArray, List.set_cons_zero, List.set_cons_succ]
    refine takeG0 (i := 1) (v := .pointer (some ⟨B.mb, 0, none⟩)) rfl (by kernel_rfl) (by kernel_rfl) (by kernel_rfl) (by kernel_rfl) (fun _ _ _ h => h) (Or.inl ⟨by rfl, fun W hW => by go_simp⟩) hH ?_
    simp only [Act.put, List.getElem_toArray, List.getElem_cons_zero, List.getElem_cons_succ, List.setIfInBounds_toArray, List.set_cons_zero, List.set_cons_succ]
    refine takeG0 (i := 2) (v := .pointer (some ⟨B.mb, 1, none⟩)) rfl (by kernel_rfl) (by kernel_rfl) (by kernel_rfl) (by kernel_rfl) (fun _ _ _ h => h) (Or.inl ⟨by rfl, fun W hW => by go_simp⟩) hH ?_
    simp only [Act.put, List.getElem_toArray, List.getElem_cons_zero, List.getElem_cons_succ, List.setIfInBounds_toArray, List.set_cons_zero, List.set_cons_succ]
    refine takeT (i := 3) (v := .slice (some ⟨g, 0, none⟩) s2.ths.length cap) rfl (by kernel_rfl) (by kernel_rfl) (by kernel_rfl) (by kernel_rfl) (fun _ _ _ h => h) (Or.inl ⟨by rfl, fun W hW => by have q0 := keepAt hW HF.out.2.2.2.1 HF.out.1; go_simp⟩) hH ?_
    simp only [Act.put, List.getElem_toArray, List.getElem_cons_zero, List.getElem_cons_succ, List.setIfInBounds_toArray, List.set_cons_zero, List.set_cons_succ]
    refine takeG0 (i := 4) (v := .pointer (some ⟨xb, 1, none⟩)) rfl (by kernel_rfl) (by kernel_rfl) (by kernel_rfl) (by kernel_rfl) (fun _ _ _ h => h) (Or.inl ⟨by rfl, fun W hW => by go_simp⟩) hH ?_
    simp only [Act.put, List.getElem_toArray, List.getElem_cons_zero, List.getElem_cons_succ, List.setIfInBounds_toArray, List.set_cons_zero, List.set_cons_succ]
    refine takeT (i := 5) (v := .int .i64 (w : Int)) rfl (by kernel_rfl) (by kernel_rfl) (by kernel_rfl) (by kernel_rfl) (fun _ _ _ h => h) (Or.inl ⟨by rfl, fun W hW => by have q0 := keepAt hW HF.out.2.2.2.2.1 HF.out.2.1; go_simp⟩) hH ?_
    simp only [Act.put, List.getElem_toArray, List.getElem_cons_zero, List.getElem_cons_succ, List.setIfInBounds_toArray, List.set_cons_zero, List.set_cons_succ]
    refine takeG0 (i := 6) (v := .pointer (some ⟨g, w * 10, none⟩)) rfl (by kernel_rfl) (by kernel_rfl) (by kernel_rfl) (by kernel_rfl) (fun _ _ _ h => h) (Or.inl ⟨by rfl, fun W hW => by go_simp⟩) hH ?_
    simp only [Act.put, List.getElem_toArray, List.getElem_cons_zero, List.getElem_cons_succ, List.setIfInBounds_toArray, List.set_cons_zero, List.set_cons_succ]
    refine takeG0 (i := 7) (v := .pointer (some ⟨g, w * 10 + 9, none⟩)) rfl (by kernel_rfl) (by kernel_rfl) (by kernel_rfl) (by kernel_rfl) (fun _ _ _ h => h) (Or.inl ⟨by rfl, fun W hW => by go_simp⟩) hH ?_
    simp only [Act.put, List.getElem_toArray, List.getElem_cons_zero, List.getElem_cons_succ, List.setIfInBounds_toArray, List.set_cons_zero, List.set_cons_succ]
    refine lastG (by kernel_rfl) rfl (by kernel_rfl) (fun K hK => ?_)
    have q9 := HF.out.2.2.1
    have f9 := HF.out.2.2.2.2.2.2
    go_simp
    clear q9 f9
    have hX5 := HX4.out.bind HM.out
    refine hK.out _ _ ?_
    clear hK K HM HF HX4
    generalize W0.setCell ⟨g, w * 10 + 9, none⟩ (.int .i64 0) = W5 at hX5 ⊢
    have hN : Calls Tryd.prog 82 #[.pointer (some ⟨B.mb, 0, none⟩), .agg #[.int .i64 11, .int .i64 0, .int .i64 0, .int .i64 0, .int .u32 0, .int .u32 0, .int .u32 0, .bool false]] W5 _ := hX5.call (s' := noteM (w : Int) { s2 with ths := s2.ths.set w { s2.ths.getD w tha with st := 0 } } ⟨11, 0, 0, 0, 0, 0, 0, false⟩) (R := fun e => ∃ u, e = .returned u) (fun own1 h1 => (snote_any B _ own1 W5 h1 HV.out.1 ⟨11, 0, 0, 0, 0, 0, 0, false⟩).mono fun e W' ⟨a, b⟩ => ⟨a, by have e1 := HV.out.2; rw [← e1]; exact b⟩)
    clear hX5
    go_wp2_with fail
    refine hN.mono ?_
    rintro e W6 ⟨⟨u, rfl⟩, hX6⟩
    have HX6 := Lib.hid hX6
    clear hN hX6
    go_wp2
    go_end0
    exact ⟨⟨_, rfl⟩, by unfold rouseM; rw [if_pos HFN.out, HS.out]; exact HX6.out.moves⟩
  · rw [if_neg hf] at hX2
    rw [if_neg hf]
    have HFN := Lib.hid (show ¬ fnd ({ s with who := (w : Int) } : Mst).slp (w : Int) < ({ s with who := (w : Int) } : Mst).slp.length from hf)
    have HX2 := Lib.hid hX2
    clear hX2 HX1 hf
    go_wp2
    go_end0
    exact ⟨⟨_, rfl⟩, by unfold rouseM; rw [if_neg HFN.out]; exact HX2.out.moves⟩

/-- Pick does what the plain machine does. -/
theorem spick_any (B : MB) (hB : MBok B) (s : Mst) (hs : MOk B s) (hc : mCan B 3 s) (own : Nat → Prop) (W : World) (hI : MInv scL B s own W) (hT : Tab W) (x : Int × Int) :
    Calls Tryd.prog 23 #[.pointer (some ⟨B.mb, 0, none⟩), .agg #[.int .i64 x.1, .int .i64 x.2]] W fun e W' => (∃ u, e = .returned u) ∧ Moves (MInv scL B) (sPick B s x) own W W' := by
  obtain ⟨k, z⟩ := x
  unfold sPick
  dsimp only
  by_cases hz : z < 0 ∨ (s.ths.length : Int) ≤ z
  · rw [if_pos hz]
    exact spick_out B s own W hI k z hz
  · rw [if_neg hz]
    obtain ⟨w, rfl⟩ : ∃ w : Nat, z = (w : Int) := ⟨z.toNat, by omega⟩
    have hw : w < s.ths.length := by omega
    rw [Int.toNat_natCast]
    by_cases h0 : k = 0
    · rw [if_pos h0]; subst h0
      exact spick_step B hB s hs hc own W hI hT w hw
    rw [if_neg h0]
    by_cases h2 : k = 2
    · rw [if_pos h2]; subst h2
      exact spick_rouse B s own W hI (by have := hc.slp; omega) (by have := hc.evs; omega) w hw
    rw [if_neg h2]
    exact spick_none B s own W hI k h0 h2 w hw
end Go.Proofs.YtjmnogpnjombgaaDoor
