/- law10: both. -/
import Derived.Test.YtjmnogpnjombgaaDoorScRun
namespace Go.Proofs.YtjmnogpnjombgaaDoor
open Go.ChangeShapes Go.WideShapes Go.ChangeAt Go.RowKit Go.Deep
set_option linter.unusedVariables false
set_option maxRecDepth 100000
set_option linter.unusedSimpArgs false

/-- A side's code. -/
def fSide (a b : Int) (i : Nat) : Ins := if i = 0 then ⟨1, 1, 0, 0, 1⟩ else if i = 1 then ⟨17, 1, 8, 0, a⟩ else ⟨16, 2, 8, 0, b⟩
def sideArr (a b : Int) : Array Value := #[.int .i64 1, .int .i64 1, .int .i64 0, .int .i64 0, .int .u32 1, .int .i64 17, .int .i64 1, .int .i64 8, .int .i64 0, .int .u32 a, .int .i64 16, .int .i64 2, .int .i64 8, .int .i64 0, .int .u32 b]
theorem side_any (a b : Int) (w : World) :
    Calls Tryd.prog 74 #[.int .u32 a, .int .u32 b] w fun e w' => ∃ g, e = .returned (.slice (some ⟨g, 0, none⟩) 3 3) ∧ Blk w' g 54 (sideArr a b) ∧ Below w.heap.size w w' := by
  have hX := Blk.new w 54 (sideArr a b)
  have hal := (Below.refl w.heap.size w).alloc (Nat.le_refl _) (.cells (sideArr a b) 54)
  unfold sideArr at hX hal
  unfold sideArr
  go_enter Tryd.func74, Tryd.ntmps74
  go_wp2
  go_ret
  exact ⟨_, rfl, hX, hal⟩
theorem side_at {W : World} {g : Nat} {a b : Int} (h : Blk W g 54 (sideArr a b)) : (⟨some ⟨g, 0, none⟩, 3, 3, fSide a b⟩ : Cd).At W := fun _ => ⟨g, 0, rfl, h.lt, fun i hi j u hu => by
  have hi : i < 3 := hi
  have hj : j < 5 := (List.getElem?_eq_some_iff.1 hu).1
  rw [h.cell]
  rcases (by omega : i = 0 ∨ i = 1 ∨ i = 2) with rfl | rfl | rfl <;> rcases (by omega : j = 0 ∨ j = 1 ∨ j = 2 ∨ j = 3 ∨ j = 4) with rfl | rfl | rfl | rfl | rfl <;> exact hu⟩
theorem side_ok (a b : Int) (ha : 0 ≤ a ∧ a ≤ 1) (hb : 0 ≤ b ∧ b ≤ 1) (g : Nat) : (⟨some ⟨g, 0, none⟩, 3, 3, fSide a b⟩ : Cd).Ok where
  hl := Nat.le_refl _
  hm := by show 3 ≤ maxLen; unfold maxLen; omega
  ins := fun i hi => by
    show (fSide a b i).Ok
    unfold fSide
    split
    · exact insOk (by omega)
    split
    · exact insOk (by omega)
    · exact insOk (by omega)
/-- The program of two sides. -/
def pBoth (ab g0 g1 mb : Nat) : Pg := ⟨some ⟨ab, 0, none⟩, 2, 2, fun t => if t = 0 then ⟨some ⟨g0, 0, none⟩, 3, 3, fSide 0 1⟩ else ⟨some ⟨g1, 0, none⟩, 3, 3, fSide 1 0⟩, some ⟨mb, 0, none⟩, 2, 2, fun _ => 0, 1⟩
theorem pBoth_ok (ab g0 g1 mb : Nat) : (pBoth ab g0 g1 mb).Ok where
  hl := Nat.le_refl _
  hm := by show 2 ≤ maxLen; unfold maxLen; omega
  ml := Nat.le_refl _
  mm := by show 2 ≤ maxLen; unfold maxLen; omega
  cds := fun t ht => by
    show (if t = 0 then _ else _ : Cd).Ok
    split
    · exact side_ok 0 1 (by omega) (by omega) g0
    · exact side_ok 1 0 (by omega) (by omega) g1
  z0 := fun i hi => ⟨Int.le_refl _, by show (0 : Int) ≤ _; omega⟩
  r0 := by show _ ≤ (1 : Int); omega
  r1 := by show (1 : Int) ≤ _; omega
theorem pBoth_chk (ab g0 g1 mb : Nat) : Chk (pBoth ab g0 g1 mb) 0 0 0 := by
  refine .fine (by show 1 ≤ 2; omega) (by show 2 ≤ 8; omega) (by show (1 : Int) ≤ 1; omega) (by show (1 : Int) ≤ 16; omega) (by show 2 ≤ 1024; omega) (fun t ht => ?_)
  show goodCd (if t = 0 then _ else _ : Cd)
  split
  · refine ⟨by show 3 ≤ 4000; omega, fun i hi => ?_⟩
    have hi : i < 3 := hi
    show rightB (fSide 0 1 i) ((3 : Nat) : Int) = true
    rcases (by omega : i = 0 ∨ i = 1 ∨ i = 2) with rfl | rfl | rfl <;> decide +kernel
  · refine ⟨by show 3 ≤ 4000; omega, fun i hi => ?_⟩
    have hi : i < 3 := hi
    show rightB (fSide 1 0 i) ((3 : Nat) : Int) = true
    rcases (by omega : i = 0 ∨ i = 1 ∨ i = 2) with rfl | rfl | rfl <;> decide +kernel
theorem pBoth_at {W : World} {ab g0 g1 mb : Nat} (h0 : Blk W g0 54 (sideArr 0 1)) (h1 : Blk W g1 54 (sideArr 1 0)) (ha : Blk W ab 26 #[.slice (some ⟨g0, 0, none⟩) 3 3, .slice (some ⟨g1, 0, none⟩) 3 3])
    (hm : Blk W mb 22 #[.int .u32 0, .int .u32 0]) : (pBoth ab g0 g1 mb).At W where
  codes := fun _ => ⟨ab, 0, rfl, ha.lt, fun i hi => by
    have hi : i < 2 := hi
    rw [ha.cell]
    rcases (by omega : i = 0 ∨ i = 1) with rfl | rfl <;> rfl⟩
  code := fun t ht => by
    show (if t = 0 then _ else _ : Cd).At W
    split
    · exact side_at h0
    · exact side_at h1
  mem := fun _ => ⟨mb, 0, rfl, hm.lt, fun i hi => by
    have hi : i < 2 := hi
    rw [hm.cell]
    rcases (by omega : i = 0 ∨ i = 1) with rfl | rfl <;> rfl⟩
set_option maxHeartbeats 4000000 in
theorem both_any (w : World) : Calls Tryd.prog 22 #[] w fun e w' => ∃ ab g0 g1 mb, e = .returned (pBoth ab g0 g1 mb).val ∧ (pBoth ab g0 g1 mb).At w' ∧ Below w.heap.size w w' := by
  have hal := (Below.refl w.heap.size w).alloc (Nat.le_refl _) (.cells #[.slice none 0 0, .slice none 0 0, .int .i64 0] 63)
  have hP := Blk.new w 63 #[.slice none 0 0, .slice none 0 0, .int .i64 0]
  obtain ⟨pb, hpb⟩ : ∃ pb, w.heap.size = pb := ⟨_, rfl⟩
  rw [hpb] at hP
  have hmk := make2
  have HX := Lib.hid (And.intro hP hal)
  have HPB := Lib.hid hpb
  clear hP hal
  go_enter Tryd.func22, Tryd.ntmps22
  go_wp2
  try rw [hpb]
  clear hpb
  have hH := HX.out.2.drew
  have hP := HX.out.1.drew
  refine startG (fun _ => True) 7 (by kernel_rfl) ?_
  generalize (w.alloc (.cells #[.slice none 0 0, .slice none 0 0, .int .i64 0] 63)).drew = W0 at hH hP ⊢
  clear HX
  refine takeG0 (i := 0) (v := .func (.func 74) #[] #[]) rfl (by kernel_rfl) (by kernel_rfl) (by kernel_rfl) (by kernel_rfl) (fun _ _ _ h => h) (Or.inl ⟨by rfl, fun W hW => by go_simp⟩) trivial ?_
  simp only [Act.put, List.getElem_toArray, List.getElem_cons_zero, List.getElem_cons_succ, List.setIfInBounds_toArray, List.set_cons_zero, List.set_cons_succ]
  refine takeG0 (i := 2) (v := .func (.func 74) #[] #[]) rfl (by kernel_rfl) (by kernel_rfl) (by kernel_rfl) (by kernel_rfl) (fun _ _ _ h => h) (Or.inl ⟨by rfl, fun W hW => by go_simp⟩) trivial ?_
  simp only [Act.put, List.getElem_toArray, List.getElem_cons_zero, List.getElem_cons_succ, List.setIfInBounds_toArray, List.set_cons_zero, List.set_cons_succ]
  refine manyG (rs := [1, 5]) (by kernel_rfl) (by simp) (AllG.cons (i := 1) rfl (fun K hK => ?_) (AllG.cons (i := 5) rfl (fun K hK => ?_) AllG.nil))
  · go_simp
    with_reducible refine (side_any 0 1 W0).mono ?_
    rintro e V1 ⟨g0, rfl, h0n, hbn⟩
    replace hH := step_below hH hbn
    replace hP := hP.below hbn hP.lt
    clear hbn
    have h0 := h0n
    clear h0n
    refine hK.out _ _ trivial (fun _ => ?_)
    clear hK K
    try simp only [Act.put, List.getElem_toArray, List.getElem_cons_zero, List.getElem_cons_succ, List.setIfInBounds_toArray, List.set_cons_zero, List.set_cons_succ]
    refine manyG (rs := [3, 5]) (by kernel_rfl) (by simp) (AllG.cons (i := 3) rfl (fun K hK => ?_) (AllG.cons (i := 5) rfl (fun K hK => ?_) AllG.nil))
    · go_simp
      with_reducible refine (side_any 1 0 V1).mono ?_
      rintro e V2 ⟨g1, rfl, h1n, hbn⟩
      replace h0 := h0.below hbn h0.lt
      replace hH := step_below hH hbn
      replace hP := hP.below hbn hP.lt
      clear hbn
      have h1 := h1n
      clear h1n
      refine hK.out _ _ trivial (fun _ => ?_)
      clear hK K
      try simp only [Act.put, List.getElem_toArray, List.getElem_cons_zero, List.getElem_cons_succ, List.setIfInBounds_toArray, List.set_cons_zero, List.set_cons_succ]
      refine manyG (rs := [4, 5]) (by kernel_rfl) (by simp) (AllG.cons (i := 4) rfl (fun K hK => ?_) (AllG.cons (i := 5) rfl (fun K hK => ?_) AllG.nil))
      · go_simp
        have hbn := (Below.refl V2.heap.size V2).alloc (Nat.le_refl _) (.cells #[.slice (some ⟨g0, 0, none⟩) 3 3, .slice (some ⟨g1, 0, none⟩) 3 3] 26)
        have han := Blk.new V2 26 #[.slice (some ⟨g0, 0, none⟩) 3 3, .slice (some ⟨g1, 0, none⟩) 3 3]
        obtain ⟨ab, hge⟩ : ∃ g, V2.heap.size = g := ⟨_, rfl⟩
        rw [hge] at han
        try rw [hge]
        clear hge
        generalize V2.alloc (.cells #[.slice (some ⟨g0, 0, none⟩) 3 3, .slice (some ⟨g1, 0, none⟩) 3 3] 26) = V3 at hbn han ⊢
        replace h0 := h0.below hbn h0.lt
        replace h1 := h1.below hbn h1.lt
        replace hH := step_below hH hbn
        replace hP := hP.below hbn hP.lt
        clear hbn
        have ha := han
        clear han
        refine hK.out _ _ trivial (fun _ => ?_)
        clear hK K
        try simp only [Act.put, List.getElem_toArray, List.getElem_cons_zero, List.getElem_cons_succ, List.setIfInBounds_toArray, List.set_cons_zero, List.set_cons_succ]
        refine onlyG (i := 5) (by kernel_rfl) rfl (fun K hK => ?_)
        go_simp
        have hbn := (Below.refl V3.heap.size V3).alloc (Nat.le_refl _) (.cells #[.int .u32 0, .int .u32 0] 22)
        have hmn := Blk.new V3 22 #[.int .u32 0, .int .u32 0]
        obtain ⟨mb, hge⟩ : ∃ g, V3.heap.size = g := ⟨_, rfl⟩
        rw [hge] at hmn
        try rw [hge]
        clear hge
        generalize V3.alloc (.cells #[.int .u32 0, .int .u32 0] 22) = V4 at hbn hmn ⊢
        replace h0 := h0.below hbn h0.lt
        replace h1 := h1.below hbn h1.lt
        replace ha := ha.below hbn ha.lt
        replace hH := step_below hH hbn
        replace hP := hP.below hbn hP.lt
        clear hbn
        have hm := hmn
        clear hmn
        refine hK.out _ _ trivial (fun _ => ?_)
        clear hK K
        try simp only [Act.put, List.getElem_toArray, List.getElem_cons_zero, List.getElem_cons_succ, List.setIfInBounds_toArray, List.set_cons_zero, List.set_cons_succ]
        refine takeG0 (i := 6) (v := .agg #[.slice (some ⟨ab, 0, none⟩) 2 2, .slice (some ⟨mb, 0, none⟩) 2 2, .int .i64 1]) rfl (by kernel_rfl) (by kernel_rfl) (by kernel_rfl) (by kernel_rfl) (fun _ _ _ h => h) (Or.inl ⟨by rfl, fun W hW => by go_simp⟩) trivial ?_
        simp only [Act.put, List.getElem_toArray, List.getElem_cons_zero, List.getElem_cons_succ, List.setIfInBounds_toArray, List.set_cons_zero, List.set_cons_succ]
        refine lastG (by kernel_rfl) rfl (by kernel_rfl) (fun K hK => ?_)
        refine step_store_row rfl 63 (.tmp 0) (.tmp 8) rfl _ rfl #[.slice (some ⟨ab, 0, none⟩) 2 2, .slice (some ⟨mb, 0, none⟩) 2 2, .int .i64 1] rfl 63 _ hP rfl pgz_info (by simp [Value.oneCell']) ?_
        intro W9 hb9 hg9
        have HF := Lib.hid (And.intro (pBoth_at (h0.grown hg9 (fun e => h0.ne hP (by decide) (Option.some.inj e))) (h1.grown hg9 (fun e => h1.ne hP (by decide) (Option.some.inj e))) (ha.grown hg9 (fun e => ha.ne hP (by decide) (Option.some.inj e))) (hm.grown hg9 (fun e => hm.ne hP (by decide) (Option.some.inj e)))) (below_row hH hg9 hH.size (Nat.le_of_eq HPB.out)))
        refine hK.out _ _ ?_
        clear hK K
        go_wp2_with fail
        exact bodyPost_ret (results_cell Tryd.results22 _ _ _ _ rfl (run_row _ _ _ _ _ _ hb9 Tryd.underlying63 rfl pgz_info)) rfl ⟨ab, g0, g1, mb, rfl, HF.out.1, HF.out.2⟩
      · go_simp
        have hbn := (Below.refl V2.heap.size V2).alloc (Nat.le_refl _) (.cells #[.int .u32 0, .int .u32 0] 22)
        have hmn := Blk.new V2 22 #[.int .u32 0, .int .u32 0]
        obtain ⟨mb, hge⟩ : ∃ g, V2.heap.size = g := ⟨_, rfl⟩
        rw [hge] at hmn
        try rw [hge]
        clear hge
        generalize V2.alloc (.cells #[.int .u32 0, .int .u32 0] 22) = V5 at hbn hmn ⊢
        replace h0 := h0.below hbn h0.lt
        replace h1 := h1.below hbn h1.lt
        replace hH := step_below hH hbn
        replace hP := hP.below hbn hP.lt
        clear hbn
        have hm := hmn
        clear hmn
        refine hK.out _ _ trivial (fun _ => ?_)
        clear hK K
        try simp only [Act.put, List.getElem_toArray, List.getElem_cons_zero, List.getElem_cons_succ, List.setIfInBounds_toArray, List.set_cons_zero, List.set_cons_succ]
        refine onlyG (i := 4) (by kernel_rfl) rfl (fun K hK => ?_)
        go_simp
        have hbn := (Below.refl V5.heap.size V5).alloc (Nat.le_refl _) (.cells #[.slice (some ⟨g0, 0, none⟩) 3 3, .slice (some ⟨g1, 0, none⟩) 3 3] 26)
        have han := Blk.new V5 26 #[.slice (some ⟨g0, 0, none⟩) 3 3, .slice (some ⟨g1, 0, none⟩) 3 3]
        obtain ⟨ab, hge⟩ : ∃ g, V5.heap.size = g := ⟨_, rfl⟩
        rw [hge] at han
        try rw [hge]
        clear hge
        generalize V5.alloc (.cells #[.slice (some ⟨g0, 0, none⟩) 3 3, .slice (some ⟨g1, 0, none⟩) 3 3] 26) = V6 at hbn han ⊢
        replace h0 := h0.below hbn h0.lt
        replace h1 := h1.below hbn h1.lt
        replace hm := hm.below hbn hm.lt
        replace hH := step_below hH hbn
        replace hP := hP.below hbn hP.lt
        clear hbn
        have ha := han
        clear han
        refine hK.out _ _ trivial (fun _ => ?_)
        clear hK K
        try simp only [Act.put, List.getElem_toArray, List.getElem_cons_zero, List.getElem_cons_succ, List.setIfInBounds_toArray, List.set_cons_zero, List.set_cons_succ]
        refine takeG0 (i := 6) (v := .agg #[.slice (some ⟨ab, 0, none⟩) 2 2, .slice (some ⟨mb, 0, none⟩) 2 2, .int .i64 1]) rfl (by kernel_rfl) (by kernel_rfl) (by kernel_rfl) (by kernel_rfl) (fun _ _ _ h => h) (Or.inl ⟨by rfl, fun W hW => by go_simp⟩) trivial ?_
        simp only [Act.put, List.getElem_toArray, List.getElem_cons_zero, List.getElem_cons_succ, List.setIfInBounds_toArray, List.set_cons_zero, List.set_cons_succ]
        refine lastG (by kernel_rfl) rfl (by kernel_rfl) (fun K hK => ?_)
        refine step_store_row rfl 63 (.tmp 0) (.tmp 8) rfl _ rfl #[.slice (some ⟨ab, 0, none⟩) 2 2, .slice (some ⟨mb, 0, none⟩) 2 2, .int .i64 1] rfl 63 _ hP rfl pgz_info (by simp [Value.oneCell']) ?_
        intro W9 hb9 hg9
        have HF := Lib.hid (And.intro (pBoth_at (h0.grown hg9 (fun e => h0.ne hP (by decide) (Option.some.inj e))) (h1.grown hg9 (fun e => h1.ne hP (by decide) (Option.some.inj e))) (ha.grown hg9 (fun e => ha.ne hP (by decide) (Option.some.inj e))) (hm.grown hg9 (fun e => hm.ne hP (by decide) (Option.some.inj e)))) (below_row hH hg9 hH.size (Nat.le_of_eq HPB.out)))
        refine hK.out _ _ ?_
        clear hK K
        go_wp2_with fail
        exact bodyPost_ret (results_cell Tryd.results22 _ _ _ _ rfl (run_row _ _ _ _ _ _ hb9 Tryd.underlying63 rfl pgz_info)) rfl ⟨ab, g0, g1, mb, rfl, HF.out.1, HF.out.2⟩
    · go_simp
      have hbn := (Below.refl V1.heap.size V1).alloc (Nat.le_refl _) (.cells #[.int .u32 0, .int .u32 0] 22)
      have hmn := Blk.new V1 22 #[.int .u32 0, .int .u32 0]
      obtain ⟨mb, hge⟩ : ∃ g, V1.heap.size = g := ⟨_, rfl⟩
      rw [hge] at hmn
      try rw [hge]
      clear hge
      generalize V1.alloc (.cells #[.int .u32 0, .int .u32 0] 22) = V7 at hbn hmn ⊢
      replace h0 := h0.below hbn h0.lt
      replace hH := step_below hH hbn
      replace hP := hP.below hbn hP.lt
      clear hbn
      have hm := hmn
      clear hmn
      refine hK.out _ _ trivial (fun _ => ?_)
      clear hK K
      try simp only [Act.put, List.getElem_toArray, List.getElem_cons_zero, List.getElem_cons_succ, List.setIfInBounds_toArray, List.set_cons_zero, List.set_cons_succ]
      refine onlyG (i := 3) (by kernel_rfl) rfl (fun K hK => ?_)
      go_simp
      with_reducible refine (side_any 1 0 V7).mono ?_
      rintro e V8 ⟨g1, rfl, h1n, hbn⟩
      replace h0 := h0.below hbn h0.lt
      replace hm := hm.below hbn hm.lt
      replace hH := step_below hH hbn
      replace hP := hP.below hbn hP.lt
      clear hbn
      have h1 := h1n
      clear h1n
      refine hK.out _ _ trivial (fun _ => ?_)
      clear hK K
      try simp only [Act.put, List.getElem_toArray, List.getElem_cons_zero, List.getElem_cons_succ, List.setIfInBounds_toArray, List.set_cons_zero, List.set_cons_succ]
      refine onlyG (i := 4) (by kernel_rfl) rfl (fun K hK => ?_)
      go_simp
      have hbn := (Below.refl V8.heap.size V8).alloc (Nat.le_refl _) (.cells #[.slice (some ⟨g0, 0, none⟩) 3 3, .slice (some ⟨g1, 0, none⟩) 3 3] 26)
      have han := Blk.new V8 26 #[.slice (some ⟨g0, 0, none⟩) 3 3, .slice (some ⟨g1, 0, none⟩) 3 3]
      obtain ⟨ab, hge⟩ : ∃ g, V8.heap.size = g := ⟨_, rfl⟩
      rw [hge] at han
      try rw [hge]
      clear hge
      generalize V8.alloc (.cells #[.slice (some ⟨g0, 0, none⟩) 3 3, .slice (some ⟨g1, 0, none⟩) 3 3] 26) = V9 at hbn han ⊢
      replace h0 := h0.below hbn h0.lt
      replace hm := hm.below hbn hm.lt
      replace h1 := h1.below hbn h1.lt
      replace hH := step_below hH hbn
      replace hP := hP.below hbn hP.lt
      clear hbn
      have ha := han
      clear han
      refine hK.out _ _ trivial (fun _ => ?_)
      clear hK K
      try simp only [Act.put, List.getElem_toArray, List.getElem_cons_zero, List.getElem_cons_succ, List.setIfInBounds_toArray, List.set_cons_zero, List.set_cons_succ]
      refine takeG0 (i := 6) (v := .agg #[.slice (some ⟨ab, 0, none⟩) 2 2, .slice (some ⟨mb, 0, none⟩) 2 2, .int .i64 1]) rfl (by kernel_rfl) (by kernel_rfl) (by kernel_rfl) (by kernel_rfl) (fun _ _ _ h => h) (Or.inl ⟨by rfl, fun W hW => by go_simp⟩) trivial ?_
      simp only [Act.put, List.getElem_toArray, List.getElem_cons_zero, List.getElem_cons_succ, List.setIfInBounds_toArray, List.set_cons_zero, List.set_cons_succ]
      refine lastG (by kernel_rfl) rfl (by kernel_rfl) (fun K hK => ?_)
      refine step_store_row rfl 63 (.tmp 0) (.tmp 8) rfl _ rfl #[.slice (some ⟨ab, 0, none⟩) 2 2, .slice (some ⟨mb, 0, none⟩) 2 2, .int .i64 1] rfl 63 _ hP rfl pgz_info (by simp [Value.oneCell']) ?_
      intro W9 hb9 hg9
      have HF := Lib.hid (And.intro (pBoth_at (h0.grown hg9 (fun e => h0.ne hP (by decide) (Option.some.inj e))) (h1.grown hg9 (fun e => h1.ne hP (by decide) (Option.some.inj e))) (ha.grown hg9 (fun e => ha.ne hP (by decide) (Option.some.inj e))) (hm.grown hg9 (fun e => hm.ne hP (by decide) (Option.some.inj e)))) (below_row hH hg9 hH.size (Nat.le_of_eq HPB.out)))
      refine hK.out _ _ ?_
      clear hK K
      go_wp2_with fail
      exact bodyPost_ret (results_cell Tryd.results22 _ _ _ _ rfl (run_row _ _ _ _ _ _ hb9 Tryd.underlying63 rfl pgz_info)) rfl ⟨ab, g0, g1, mb, rfl, HF.out.1, HF.out.2⟩
  · go_simp
    have hbn := (Below.refl W0.heap.size W0).alloc (Nat.le_refl _) (.cells #[.int .u32 0, .int .u32 0] 22)
    have hmn := Blk.new W0 22 #[.int .u32 0, .int .u32 0]
    obtain ⟨mb, hge⟩ : ∃ g, W0.heap.size = g := ⟨_, rfl⟩
    rw [hge] at hmn
    try rw [hge]
    clear hge
    generalize W0.alloc (.cells #[.int .u32 0, .int .u32 0] 22) = V10 at hbn hmn ⊢
    replace hH := step_below hH hbn
    replace hP := hP.below hbn hP.lt
    clear hbn
    have hm := hmn
    clear hmn
    refine hK.out _ _ trivial (fun _ => ?_)
    clear hK K
    try simp only [Act.put, List.getElem_toArray, List.getElem_cons_zero, List.getElem_cons_succ, List.setIfInBounds_toArray, List.set_cons_zero, List.set_cons_succ]
    refine onlyG (i := 1) (by kernel_rfl) rfl (fun K hK => ?_)
    go_simp
    with_reducible refine (side_any 0 1 V10).mono ?_
    rintro e V11 ⟨g0, rfl, h0n, hbn⟩
    replace hm := hm.below hbn hm.lt
    replace hH := step_below hH hbn
    replace hP := hP.below hbn hP.lt
    clear hbn
    have h0 := h0n
    clear h0n
    refine hK.out _ _ trivial (fun _ => ?_)
    clear hK K
    try simp only [Act.put, List.getElem_toArray, List.getElem_cons_zero, List.getElem_cons_succ, List.setIfInBounds_toArray, List.set_cons_zero, List.set_cons_succ]
    refine onlyG (i := 3) (by kernel_rfl) rfl (fun K hK => ?_)
    go_simp
    with_reducible refine (side_any 1 0 V11).mono ?_
    rintro e V12 ⟨g1, rfl, h1n, hbn⟩
    replace hm := hm.below hbn hm.lt
    replace h0 := h0.below hbn h0.lt
    replace hH := step_below hH hbn
    replace hP := hP.below hbn hP.lt
    clear hbn
    have h1 := h1n
    clear h1n
    refine hK.out _ _ trivial (fun _ => ?_)
    clear hK K
    try simp only [Act.put, List.getElem_toArray, List.getElem_cons_zero, List.getElem_cons_succ, List.setIfInBounds_toArray, List.set_cons_zero, List.set_cons_succ]
    refine onlyG (i := 4) (by kernel_rfl) rfl (fun K hK => ?_)
    go_simp
    have hbn := (Below.refl V12.heap.size V12).alloc (Nat.le_refl _) (.cells #[.slice (some ⟨g0, 0, none⟩) 3 3, .slice (some ⟨g1, 0, none⟩) 3 3] 26)
    have han := Blk.new V12 26 #[.slice (some ⟨g0, 0, none⟩) 3 3, .slice (some ⟨g1, 0, none⟩) 3 3]
    obtain ⟨ab, hge⟩ : ∃ g, V12.heap.size = g := ⟨_, rfl⟩
    rw [hge] at han
    try rw [hge]
    clear hge
    generalize V12.alloc (.cells #[.slice (some ⟨g0, 0, none⟩) 3 3, .slice (some ⟨g1, 0, none⟩) 3 3] 26) = V13 at hbn han ⊢
    replace hm := hm.below hbn hm.lt
    replace h0 := h0.below hbn h0.lt
    replace h1 := h1.below hbn h1.lt
    replace hH := step_below hH hbn
    replace hP := hP.below hbn hP.lt
    clear hbn
    have ha := han
    clear han
    refine hK.out _ _ trivial (fun _ => ?_)
    clear hK K
    try simp only [Act.put, List.getElem_toArray, List.getElem_cons_zero, List.getElem_cons_succ, List.setIfInBounds_toArray, List.set_cons_zero, List.set_cons_succ]
    refine takeG0 (i := 6) (v := .agg #[.slice (some ⟨ab, 0, none⟩) 2 2, .slice (some ⟨mb, 0, none⟩) 2 2, .int .i64 1]) rfl (by kernel_rfl) (by kernel_rfl) (by kernel_rfl) (by kernel_rfl) (fun _ _ _ h => h) (Or.inl ⟨by rfl, fun W hW => by go_simp⟩) trivial ?_
    simp only [Act.put, List.getElem_toArray, List.getElem_cons_zero, List.getElem_cons_succ, List.setIfInBounds_toArray, List.set_cons_zero, List.set_cons_succ]
    refine lastG (by kernel_rfl) rfl (by kernel_rfl) (fun K hK => ?_)
    refine step_store_row rfl 63 (.tmp 0) (.tmp 8) rfl _ rfl #[.slice (some ⟨ab, 0, none⟩) 2 2, .slice (some ⟨mb, 0, none⟩) 2 2, .int .i64 1] rfl 63 _ hP rfl pgz_info (by simp [Value.oneCell']) ?_
    intro W9 hb9 hg9
    have HF := Lib.hid (And.intro (pBoth_at (h0.grown hg9 (fun e => h0.ne hP (by decide) (Option.some.inj e))) (h1.grown hg9 (fun e => h1.ne hP (by decide) (Option.some.inj e))) (ha.grown hg9 (fun e => ha.ne hP (by decide) (Option.some.inj e))) (hm.grown hg9 (fun e => hm.ne hP (by decide) (Option.some.inj e)))) (below_row hH hg9 hH.size (Nat.le_of_eq HPB.out)))
    refine hK.out _ _ ?_
    clear hK K
    go_wp2_with fail
    exact bodyPost_ret (results_cell Tryd.results22 _ _ _ _ rfl (run_row _ _ _ _ _ _ hb9 Tryd.underlying63 rfl pgz_info)) rfl ⟨ab, g0, g1, mb, rfl, HF.out.1, HF.out.2⟩
end Go.Proofs.YtjmnogpnjombgaaDoor
