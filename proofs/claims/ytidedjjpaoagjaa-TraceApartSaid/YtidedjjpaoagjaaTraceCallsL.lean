/- The calls of any events are the document's. For every slice of events. -/
import Derived.Test.YtidedjjpaoagjaaTraceRC
import Derived.Deep.CutRange
namespace Go.Proofs.Ytidedjjpaoagjaa
open Go.ChangeShapes Go.WideShapes Go.ChangeAt Go.RowKit Go.Deep
set_option linter.unusedVariables false
set_option linter.unusedSimpArgs false

theorem allC_inner (E : Nat → Ev) (len : Nat) : ∀ c ∈ allC E len, c.inner.length ≤ len := by
  intro c hc
  obtain ⟨i, hi, rfl⟩ := List.mem_map.1 hc
  rw [oneK_all]
  have := oneK_len E i (len - (i + 1))
  omega
theorem PT.at_ {W : World} {lo hi : Nat} {A : Option Addr} {n cap : Nat} {l : List CV} (h : PT W lo hi (.slice A n cap) l) (i : Nat) (hi' : i < n) : ∃ b off, A = some ⟨b, off, none⟩ ∧ b < hi ∧ ∀ j u, (l.getD i cv0).cells[j]? = some u → W.cell? ⟨b, off + i * 6 + j, none⟩ = some u := by
  obtain ⟨A', cap', e, h1, h2, h3⟩ := h
  simp only [Value.slice.injEq] at e
  obtain ⟨rfl, rfl, _⟩ := e
  obtain ⟨b, off, rfl, _, hb, hc⟩ := h3 (by omega)
  exact ⟨b, off, rfl, hb, fun j u hu => hc i hi' j u hu⟩
theorem PT.n_ {W : World} {lo hi : Nat} {v : Value} {l : List CV} (h : PT W lo hi v l) : ∃ A cap, v = .slice A l.length cap := by
  obtain ⟨A', cap', e, _⟩ := h
  exact ⟨A', cap', e⟩
theorem traceCalls_long (A : Option Addr) (len cap : Nat) (w : World) (hl : 400 < len) (hm : len ≤ maxLen) :
    Calls Try.prog 4 #[.slice A len cap] w fun e w' => e = .returned (.bool true) ∧ Below w.heap.size w w' := by
  unfold maxLen at hm
  have hl' : (400 : Int) < (len : Int) := by omega
  go_enter Try.func4, Try.ntmps4
  go_wp2_with fail
  refine (awake_any _).mono ?_
  rintro e w1 ⟨rfl, hb1⟩
  go_wp2_with fail
  refine (awake_any _).mono ?_
  rintro e w2 ⟨rfl, hb2⟩
  go_wp2
  go_ret
  exact ⟨rfl, step_below hb1 hb2⟩

set_option maxRecDepth 100000 in
set_option maxHeartbeats 8000000 in
theorem traceCalls_true (A : Option Addr) (len cap : Nat) (E : Nat → Ev) (hl : len ≤ 400) (w : World) (hs : SlE w A len 8 (fun i => (E i).cells)) :
    Calls Try.prog 4 #[.slice A len cap] w fun e w' => e = .returned (.bool true) ∧ Below w.heap.size w w' := by
  have hl' : ¬ (400 : Int) < (len : Int) := by omega
  have HS := Lib.hid hs
  clear hs
  go_enter Try.func4, Try.ntmps4
  go_wp2_with fail
  refine (awake_any _).mono ?_
  rintro e w1 ⟨rfl, hb1⟩
  go_wp2_with fail
  refine (tcalls_any A len cap E (by omega) _ (SlE.step HS.out hb1)).mono ?_
  rintro e w2 ⟨v1, R1, rfl, m1, p1, i1, hb2⟩
  obtain ⟨A1, cap1, rfl⟩ := p1.n_
  have hB2 := step_below hb1 hb2
  have H1 := Lib.hid (And.intro m1 (And.intro p1 i1))
  clear m1 p1 i1 hb2 hb1
  obtain ⟨n, hn⟩ : ∃ n, R1.length = n := ⟨_, rfl⟩
  rw [hn]
  have HN := Lib.hid hn
  clear hn
  go_wp2_with fail
  refine (rcalls_any A len cap E (by omega) _ (SlE.step HS.out hB2)).mono ?_
  rintro e w3 ⟨v2, R2, rfl, m2, p2, i2, hb3⟩
  obtain ⟨A2, cap2, rfl⟩ := p2.n_
  have hB3 := step_below hB2 hb3
  have hn2 : R2.length = n := by
    have h1 := congrArg List.length m2
    have h2 := congrArg List.length H1.out.1
    have h3 := HN.out
    rw [List.length_map] at h1 h2
    omega
  rw [hn2]
  have H2 := Lib.hid (And.intro m2 (And.intro p2 (And.intro i2 (And.intro hb3 hn2))))
  have hnl : n ≤ 400 := by
    have h1 := congrArg List.length m2
    have h2 := allC_len E len
    rw [List.length_map] at h1
    omega
  clear m2 p2 i2 hb3 hn2 hB2
  have hne : ((n : Int) != (n : Int)) = false := by simp
  go_wp2
  go_loopw [5] (fun i wr => ∃ k : Nat, k ≤ n ∧ i = .int .i64 (k : Int) ∧ Below w3.heap.size w3 wr) (fun i _ => n - (intOf i).toNat)
  case atStart => exact ⟨0, Nat.zero_le _, rfl, Below.refl _ _⟩
  case round =>
    obtain ⟨k, hk, rfl, hBr⟩ := hrel
    by_cases hlt : k < n
    · have hlt' : (k : Int) < (n : Int) := by omega
      have hk0 : (0 : Int) ≤ (k : Int) := by omega
      obtain ⟨m1, p1, i1⟩ := H1.out
      obtain ⟨m2, p2, i2, hb3, hn2⟩ := H2.out
      have hn1 := HN.out
      rw [hn1] at p1
      rw [hn2] at p2
      obtain ⟨b1, o1, rfl, hb1l, hc1⟩ := p1.at_ k hlt
      obtain ⟨b2, o2, rfl, hb2l, hc2⟩ := p2.at_ k hlt
      have hq1 : R1.getD k cv0 ∈ R1 := getD_mem (by omega)
      have hq2 : R2.getD k cv0 ∈ R2 := getD_mem (by omega)
      have hqq : (R1.getD k cv0).1 = (R2.getD k cv0).1 := by
        have h1 : (R1.map (·.1))[k]? = (R2.map (·.1))[k]? := by rw [m1, m2]
        simp only [List.getElem?_map] at h1
        rw [List.getElem?_eq_getElem (show k < R1.length by omega), List.getElem?_eq_getElem (show k < R2.length by omega)] at h1
        simp only [Option.map_some, Option.some.injEq] at h1
        simpa [List.getD_eq_getElem?_getD, List.getElem?_eq_getElem (show k < R1.length by omega), List.getElem?_eq_getElem (show k < R2.length by omega)] using h1
      have hin1 := i1 _ hq1
      have hcl : (R1.getD k cv0).1.inner.length ≤ len := allC_inner E len _ (by rw [← m1]; exact List.mem_map_of_mem hq1)
      have hin2 := i2 _ hq2
      generalize R1.getD k cv0 = q1 at hc1 hqq hin1 hcl
      generalize R2.getD k cv0 = q2 at hc2 hqq hin2
      obtain ⟨c, iv1⟩ := q1
      obtain ⟨c', iv2⟩ := q2
      dsimp only at hqq hcl
      subst hqq
      obtain ⟨I1, d1, e1, _, hI1⟩ := hin1
      obtain ⟨I2, d2, e2, _, hI2⟩ := hin2
      dsimp only at e1 e2 hI1 hI2
      subst e1 e2
      have hlt2 : w2.heap.size ≤ w3.heap.size := hb3.size
      have hc1' : ∀ j u, (CV.cells (c, .slice I1 c.inner.length d1))[j]? = some u → wr.cell? ⟨b1, o1 + k * 6 + j, none⟩ = some u := fun j u hu => keepAt hBr (by omega) (keepAt hb3 hb1l (hc1 j u hu))
      have hc2' : ∀ j u, (CV.cells (c, .slice I2 c.inner.length d2))[j]? = some u → wr.cell? ⟨b2, o2 + k * 6 + j, none⟩ = some u := fun j u hu => keepAt hBr hb2l (hc2 j u hu)
      have hJ1 : 0 < c.inner.length → ∃ b off, I1 = some ⟨b, off, none⟩ ∧ b < w3.heap.size ∧ ∀ i, i < c.inner.length → w3.cell? ⟨b, off + i, none⟩ = some (.int .i64 (c.inner.getD i 0)) := fun hp => by
        obtain ⟨b, off, e, _, hb, hc⟩ := hI1 hp
        exact ⟨b, off, e, by omega, fun i hi => keepAt hb3 hb (hc i hi)⟩
      have hJ2 : 0 < c.inner.length → ∃ b off, I2 = some ⟨b, off, none⟩ ∧ b < w3.heap.size ∧ ∀ i, i < c.inner.length → w3.cell? ⟨b, off + i, none⟩ = some (.int .i64 (c.inner.getD i 0)) := fun hp => by
        obtain ⟨b, off, e, _, hb, hc⟩ := hI2 hp
        exact ⟨b, off, e, hb, hc⟩
      obtain ⟨m, hm⟩ : ∃ m, c.inner.length = m := ⟨_, rfl⟩
      rw [hm] at hc1' hc2' hJ1 hJ2 hcl
      have f0 := hc1' 0 _ rfl
      rw [Nat.add_zero] at f0
      have f1 := hc1' 1 _ rfl
      have f2 := hc1' 2 _ rfl
      have f3 := hc1' 3 _ rfl
      have f4 := hc1' 4 _ rfl
      have f5 := hc1' 5 _ rfl
      have h0 := hc2' 0 _ rfl
      rw [Nat.add_zero] at h0
      have h1 := hc2' 1 _ rfl
      have h2 := hc2' 2 _ rfl
      have h3 := hc2' 3 _ rfl
      have h4 := hc2' 4 _ rfl
      have h5 := hc2' 5 _ rfl
      have hb1r : b1 < wr.heap.size := Nat.lt_of_lt_of_le (by omega) hBr.size
      have hb2r : b2 < wr.heap.size := Nat.lt_of_lt_of_le hb2l hBr.size
      have hm0 : m ≤ 400 := by omega
      have HJ := Lib.hid (And.intro hJ1 hJ2)
      clear hc1 hc2 hc1' hc2' hI1 hI2 hJ1 hJ2 hm hn1 hn2 m1 m2 p1 p2 i1 i2 hq1 hq2 hlt2 hb3 hb1l hb2l
      go_upto_region 9 with fail
      go_cut [6, 7] (fun s t wx => ∃ ga gb : Nat, s = .pointer (some ⟨ga, 0, none⟩) ∧ t = .pointer (some ⟨gb, 0, none⟩) ∧ Blk wx ga 39 #[.int .i64 c.site, .int .i64 c.who, .int .i64 c.began, .int .i64 c.ended, .int .u32 c.result, .slice I1 m d1] ∧ Blk wx gb 40 #[.int .i64 c.site, .int .i64 c.who, .int .i64 c.began, .int .i64 c.ended, .int .u32 c.result, .slice I2 m d2] ∧ Below wr.heap.size wr wx)
      case first =>
          have hS0 := (Below.refl wr.heap.size wr).drew
          have hb1l : b1 < wr.drew.heap.size := hb1r
          have hb2l : b2 < wr.drew.heap.size := hb2r
          have f0 : wr.drew.cell? _ = _ := f0
          have f1 : wr.drew.cell? _ = _ := f1
          have f2 : wr.drew.cell? _ = _ := f2
          have f3 : wr.drew.cell? _ = _ := f3
          have f4 : wr.drew.cell? _ = _ := f4
          have f5 : wr.drew.cell? _ = _ := f5
          have h0 : wr.drew.cell? _ = _ := h0
          have h1 : wr.drew.cell? _ = _ := h1
          have h2 : wr.drew.cell? _ = _ := h2
          have h3 : wr.drew.cell? _ = _ := h3
          have h4 : wr.drew.cell? _ = _ := h4
          have h5 : wr.drew.cell? _ = _ := h5
          refine startG (fun W' => Below wr.drew.heap.size wr.drew W') 11 (by kernel_rfl) ?_
          have hwz : Below wr.heap.size wr wr.drew := hS0
          have hS0 := Below.refl wr.drew.heap.size wr.drew
          generalize wr.drew = W0 at hwz hS0 hb1l hb2l f0 f1 f2 f3 f4 f5 h0 h1 h2 h3 h4 h5 ⊢
          simp only [List.size_toArray, List.length_cons, List.length_nil, Nat.reduceAdd, Array.replicate_succ, Array.replicate_zero, List.push_toArray, List.nil_append, List.cons_append]
          refine takeG (i := 0) (v := .slice (some ⟨b1, o1, none⟩) n cap1) rfl (by kernel_rfl) (by kernel_rfl) (by kernel_rfl) (by kernel_rfl) (fun _ _ _ h => h) (Or.inl ⟨by rfl, fun W hW => by go_simp⟩) hS0 ?_
          simp only [Act.put, List.getElem_toArray, List.getElem_cons_zero, List.getElem_cons_succ, List.setIfInBounds_toArray, List.set_cons_zero, List.set_cons_succ]
          refine takeG (i := 1) (v := .int .i64 (k : Int)) rfl (by kernel_rfl) (by kernel_rfl) (by kernel_rfl) (by kernel_rfl) (fun _ _ _ h => h) (Or.inl ⟨by rfl, fun W hW => by go_simp⟩) hS0 ?_
          simp only [Act.put, List.getElem_toArray, List.getElem_cons_zero, List.getElem_cons_succ, List.setIfInBounds_toArray, List.set_cons_zero, List.set_cons_succ]
          refine takeG (i := 2) (v := .pointer (some ⟨b1, o1 + k * 6, none⟩)) rfl (by kernel_rfl) (by kernel_rfl) (by kernel_rfl) (by kernel_rfl) (fun _ _ _ h => h) (Or.inl ⟨by rfl, fun W hW => by go_simp⟩) hS0 ?_
          simp only [Act.put, List.getElem_toArray, List.getElem_cons_zero, List.getElem_cons_succ, List.setIfInBounds_toArray, List.set_cons_zero, List.set_cons_succ]
          refine takeG (i := 3) (v := .agg #[.int .i64 c.site, .int .i64 c.who, .int .i64 c.began, .int .i64 c.ended, .int .u32 c.result, .slice I1 m d1]) rfl (by kernel_rfl) (by kernel_rfl) (by kernel_rfl) (by kernel_rfl) (fun _ _ _ h => h) (Or.inl ⟨by rfl, fun W hW => by have hB9 : Below W0.heap.size W0 W := hW; have e0 := keepAt hB9 hb1l f0; have g0 := keepAt hB9 hb2l h0; have e1 := keepAt hB9 hb1l f1; have g1 := keepAt hB9 hb2l h1; have e2 := keepAt hB9 hb1l f2; have g2 := keepAt hB9 hb2l h2; have e3 := keepAt hB9 hb1l f3; have g3 := keepAt hB9 hb2l h3; have e4 := keepAt hB9 hb1l f4; have g4 := keepAt hB9 hb2l h4; have e5 := keepAt hB9 hb1l f5; have g5 := keepAt hB9 hb2l h5; go_simp⟩) hS0 ?_
          simp only [Act.put, List.getElem_toArray, List.getElem_cons_zero, List.getElem_cons_succ, List.setIfInBounds_toArray, List.set_cons_zero, List.set_cons_succ]
          refine takeG (i := 4) (v := .slice (some ⟨b2, o2, none⟩) n cap2) rfl (by kernel_rfl) (by kernel_rfl) (by kernel_rfl) (by kernel_rfl) (fun _ _ _ h => h) (Or.inl ⟨by rfl, fun W hW => by go_simp⟩) hS0 ?_
          simp only [Act.put, List.getElem_toArray, List.getElem_cons_zero, List.getElem_cons_succ, List.setIfInBounds_toArray, List.set_cons_zero, List.set_cons_succ]
          refine takeG (i := 5) (v := .int .i64 (k : Int)) rfl (by kernel_rfl) (by kernel_rfl) (by kernel_rfl) (by kernel_rfl) (fun _ _ _ h => h) (Or.inl ⟨by rfl, fun W hW => by go_simp⟩) hS0 ?_
          simp only [Act.put, List.getElem_toArray, List.getElem_cons_zero, List.getElem_cons_succ, List.setIfInBounds_toArray, List.set_cons_zero, List.set_cons_succ]
          refine takeG (i := 6) (v := .pointer (some ⟨b2, o2 + k * 6, none⟩)) rfl (by kernel_rfl) (by kernel_rfl) (by kernel_rfl) (by kernel_rfl) (fun _ _ _ h => h) (Or.inl ⟨by rfl, fun W hW => by go_simp⟩) hS0 ?_
          simp only [Act.put, List.getElem_toArray, List.getElem_cons_zero, List.getElem_cons_succ, List.setIfInBounds_toArray, List.set_cons_zero, List.set_cons_succ]
          refine takeG (i := 7) (v := .agg #[.int .i64 c.site, .int .i64 c.who, .int .i64 c.began, .int .i64 c.ended, .int .u32 c.result, .slice I2 m d2]) rfl (by kernel_rfl) (by kernel_rfl) (by kernel_rfl) (by kernel_rfl) (fun _ _ _ h => h) (Or.inl ⟨by rfl, fun W hW => by have hB9 : Below W0.heap.size W0 W := hW; have e0 := keepAt hB9 hb1l f0; have g0 := keepAt hB9 hb2l h0; have e1 := keepAt hB9 hb1l f1; have g1 := keepAt hB9 hb2l h1; have e2 := keepAt hB9 hb1l f2; have g2 := keepAt hB9 hb2l h2; have e3 := keepAt hB9 hb1l f3; have g3 := keepAt hB9 hb2l h3; have e4 := keepAt hB9 hb1l f4; have g4 := keepAt hB9 hb2l h4; have e5 := keepAt hB9 hb1l f5; have g5 := keepAt hB9 hb2l h5; go_simp⟩) hS0 ?_
          simp only [Act.put, List.getElem_toArray, List.getElem_cons_zero, List.getElem_cons_succ, List.setIfInBounds_toArray, List.set_cons_zero, List.set_cons_succ]
          refine manyG (rs := [8, 9]) (by kernel_rfl) (by simp) (AllG.cons (i := 8) rfl ?_ (AllG.cons (i := 9) rfl ?_ AllG.nil))
          · intro K hK
            go_simp
            refine hK.out _ _ (hS0.alloc (Nat.le_refl _) _) (fun hS1 => ?_)
            clear hK K
            simp only [Act.put, List.getElem_toArray, List.getElem_cons_zero, List.getElem_cons_succ, List.setIfInBounds_toArray, List.set_cons_zero, List.set_cons_succ]
            refine onlyG (i := 9) (by kernel_rfl) rfl ?_
            intro K hK
            go_simp
            refine hK.out _ _ (hS1.alloc hS1.size _) (fun hS2 => ?_)
            clear hK K
            simp only [Act.put, List.getElem_toArray, List.getElem_cons_zero, List.getElem_cons_succ, List.setIfInBounds_toArray, List.set_cons_zero, List.set_cons_succ]
            have xa := (Blk.new W0 39 #[.int .i64 0, .int .i64 0, .int .i64 0, .int .i64 0, .int .u32 0, .slice none 0 0]).alloc (.cells #[.int .i64 0, .int .i64 0, .int .i64 0, .int .i64 0, .int .u32 0, .slice none 0 0] 40)
            have xb := Blk.new2 W0 (.cells #[.int .i64 0, .int .i64 0, .int .i64 0, .int .i64 0, .int .u32 0, .slice none 0 0] 39) 40 #[.int .i64 0, .int .i64 0, .int .i64 0, .int .i64 0, .int .u32 0, .slice none 0 0]
            try rw [World.size_alloc]
            generalize (W0.alloc (.cells #[.int .i64 0, .int .i64 0, .int .i64 0, .int .i64 0, .int .u32 0, .slice none 0 0] 39)).alloc (.cells #[.int .i64 0, .int .i64 0, .int .i64 0, .int .i64 0, .int .u32 0, .slice none 0 0] 40) = W2 at xa xb hS2 ⊢
            clear hS1
            refine onlyG (i := 10) (by kernel_rfl) rfl ?_
            intro K hK
            simp only [List.getElem_toArray, List.getElem_cons_zero, List.getElem_cons_succ]
            rw [if_pos (by rfl)]
            refine wp_store_mid 39 (.tmp 6) (.tmp 35) rfl W0.heap.size 0 #[.int .i64 c.site, .int .i64 c.who, .int .i64 c.began, .int .i64 c.ended, .int .u32 c.result, .slice I1 m d1] rfl rfl (xa.there 0 _ (Nat.le_refl _)) (by kernel_rfl) (by simp [Value.oneCell']) ?_
            obtain ⟨y1, gr1⟩ := setCells_whole xa (cells := #[.int .i64 c.site, .int .i64 c.who, .int .i64 c.began, .int .i64 c.ended, .int .u32 c.result, .slice I1 m d1]) rfl
            have y2 := xb.grown gr1 (fun e => by injection e with e; omega)
            have hS3 := below_row hS2 gr1 hS2.size (by omega)
            generalize W2.setCells W0.heap.size 0 _ = W3' at y1 y2 gr1 hS3 ⊢
            refine hK.out _ _ hS3 (fun _ => ?_)
            clear hK K
            simp only [Act.put, List.getElem_toArray, List.getElem_cons_zero, List.getElem_cons_succ, List.setIfInBounds_toArray, List.set_cons_zero, List.set_cons_succ]
            refine lastG (by kernel_rfl) rfl (by kernel_rfl) ?_
            intro K hK
            simp only [List.getElem_toArray, List.getElem_cons_zero, List.getElem_cons_succ]
            rw [if_pos (by rfl)]
            refine wp_store_mid 40 (.tmp 7) (.tmp 39) rfl (W0.heap.size + 1) 0 #[.int .i64 c.site, .int .i64 c.who, .int .i64 c.began, .int .i64 c.ended, .int .u32 c.result, .slice I2 m d2] rfl rfl (y2.there 0 _ (Nat.le_refl _)) (by kernel_rfl) (by simp [Value.oneCell']) ?_
            obtain ⟨z2, gr2⟩ := setCells_whole y2 (cells := #[.int .i64 c.site, .int .i64 c.who, .int .i64 c.began, .int .i64 c.ended, .int .u32 c.result, .slice I2 m d2]) rfl
            have z1 := y1.grown gr2 (fun e => by injection e with e; omega)
            have hS4 := below_row hS3 gr2 hS3.size (by omega)
            generalize W3'.setCells (W0.heap.size + 1) 0 _ = W4 at z1 z2 gr2 hS4 ⊢
            refine hK.out _ _ ?_
            clear hK K
            simp only [Act.put, List.getElem_toArray, List.getElem_cons_zero, List.getElem_cons_succ, List.setIfInBounds_toArray, List.set_cons_zero, List.set_cons_succ]
            go_wp2_with fail
            go_meet
            case rel => exact ⟨W0.heap.size, (W0.heap.size + 1), rfl, rfl, z1, z2, hwz.trans (hS4.mono hwz.size)⟩
          · intro K hK
            go_simp
            refine hK.out _ _ (hS0.alloc (Nat.le_refl _) _) (fun hS1 => ?_)
            clear hK K
            simp only [Act.put, List.getElem_toArray, List.getElem_cons_zero, List.getElem_cons_succ, List.setIfInBounds_toArray, List.set_cons_zero, List.set_cons_succ]
            refine onlyG (i := 8) (by kernel_rfl) rfl ?_
            intro K hK
            go_simp
            refine hK.out _ _ (hS1.alloc hS1.size _) (fun hS2 => ?_)
            clear hK K
            simp only [Act.put, List.getElem_toArray, List.getElem_cons_zero, List.getElem_cons_succ, List.setIfInBounds_toArray, List.set_cons_zero, List.set_cons_succ]
            have xa := (Blk.new W0 40 #[.int .i64 0, .int .i64 0, .int .i64 0, .int .i64 0, .int .u32 0, .slice none 0 0]).alloc (.cells #[.int .i64 0, .int .i64 0, .int .i64 0, .int .i64 0, .int .u32 0, .slice none 0 0] 39)
            have xb := Blk.new2 W0 (.cells #[.int .i64 0, .int .i64 0, .int .i64 0, .int .i64 0, .int .u32 0, .slice none 0 0] 40) 39 #[.int .i64 0, .int .i64 0, .int .i64 0, .int .i64 0, .int .u32 0, .slice none 0 0]
            try rw [World.size_alloc]
            generalize (W0.alloc (.cells #[.int .i64 0, .int .i64 0, .int .i64 0, .int .i64 0, .int .u32 0, .slice none 0 0] 40)).alloc (.cells #[.int .i64 0, .int .i64 0, .int .i64 0, .int .i64 0, .int .u32 0, .slice none 0 0] 39) = W2 at xa xb hS2 ⊢
            clear hS1
            refine onlyG (i := 10) (by kernel_rfl) rfl ?_
            intro K hK
            simp only [List.getElem_toArray, List.getElem_cons_zero, List.getElem_cons_succ]
            rw [if_pos (by rfl)]
            refine wp_store_mid 39 (.tmp 6) (.tmp 35) rfl (W0.heap.size + 1) 0 #[.int .i64 c.site, .int .i64 c.who, .int .i64 c.began, .int .i64 c.ended, .int .u32 c.result, .slice I1 m d1] rfl rfl (xb.there 0 _ (Nat.le_refl _)) (by kernel_rfl) (by simp [Value.oneCell']) ?_
            obtain ⟨y1, gr1⟩ := setCells_whole xb (cells := #[.int .i64 c.site, .int .i64 c.who, .int .i64 c.began, .int .i64 c.ended, .int .u32 c.result, .slice I1 m d1]) rfl
            have y2 := xa.grown gr1 (fun e => by injection e with e; omega)
            have hS3 := below_row hS2 gr1 hS2.size (by omega)
            generalize W2.setCells (W0.heap.size + 1) 0 _ = W3' at y1 y2 gr1 hS3 ⊢
            refine hK.out _ _ hS3 (fun _ => ?_)
            clear hK K
            simp only [Act.put, List.getElem_toArray, List.getElem_cons_zero, List.getElem_cons_succ, List.setIfInBounds_toArray, List.set_cons_zero, List.set_cons_succ]
            refine lastG (by kernel_rfl) rfl (by kernel_rfl) ?_
            intro K hK
            simp only [List.getElem_toArray, List.getElem_cons_zero, List.getElem_cons_succ]
            rw [if_pos (by rfl)]
            refine wp_store_mid 40 (.tmp 7) (.tmp 39) rfl W0.heap.size 0 #[.int .i64 c.site, .int .i64 c.who, .int .i64 c.began, .int .i64 c.ended, .int .u32 c.result, .slice I2 m d2] rfl rfl (y2.there 0 _ (Nat.le_refl _)) (by kernel_rfl) (by simp [Value.oneCell']) ?_
            obtain ⟨z2, gr2⟩ := setCells_whole y2 (cells := #[.int .i64 c.site, .int .i64 c.who, .int .i64 c.began, .int .i64 c.ended, .int .u32 c.result, .slice I2 m d2]) rfl
            have z1 := y1.grown gr2 (fun e => by injection e with e; omega)
            have hS4 := below_row hS3 gr2 hS3.size (by omega)
            generalize W3'.setCells W0.heap.size 0 _ = W4 at z1 z2 gr2 hS4 ⊢
            refine hK.out _ _ ?_
            clear hK K
            simp only [Act.put, List.getElem_toArray, List.getElem_cons_zero, List.getElem_cons_succ, List.setIfInBounds_toArray, List.set_cons_zero, List.set_cons_succ]
            go_wp2_with fail
            go_meet
            case rel => exact ⟨(W0.heap.size + 1), W0.heap.size, rfl, rfl, z1, z2, hwz.trans (hS4.mono hwz.size)⟩
      case rest =>
        obtain ⟨ga, gb, rfl, rfl, x1, x2, hBx⟩ := hcut
        clear f0 f1 f2 f3 f4 f5 h0 h1 h2 h3 h4 h5
        have s0 := x1.cell 0
        have s1 := x1.cell 1
        have s2 := x1.cell 2
        have s3 := x1.cell 3
        have s4 := x1.cell 4
        have s5 := x1.cell 5
        have t0 := x2.cell 0
        have t1 := x2.cell 1
        have t2 := x2.cell 2
        have t3 := x2.cell 3
        have t4 := x2.cell 4
        have t5 := x2.cell 5
        simp only [List.getElem?_toArray, List.getElem?_cons_zero, List.getElem?_cons_succ] at s0 s1 s2 s3 s4 s5 t0 t1 t2 t3 t4 t5
        have hne2 : ((m : Int) != (m : Int)) = false := by simp
        have hBx3 : Below w3.heap.size w3 wc := hBr.trans (hBx.mono hBr.size)
        clear x1 x2
        go_wp2
        go_loopw [8] (fun i wq => ∃ k2 q : Nat, k2 ≤ m ∧ i = .int .i64 (k2 : Int) ∧ wq = wc.drewN q) (fun i _ => m - (intOf i).toNat)
        case atStart => exact ⟨0, 0, Nat.zero_le _, rfl, rfl⟩
        case round =>
          obtain ⟨k2, q, hk2, rfl, rfl⟩ := hrel
          by_cases hlt2 : k2 < m
          · have hlt2' : (k2 : Int) < (m : Int) := by omega
            have hk20 : (0 : Int) ≤ (k2 : Int) := by omega
            obtain ⟨p1, q1, rfl, hp1, hu1⟩ := HJ.out.1 (by omega)
            obtain ⟨p2, q2, rfl, hp2, hu2⟩ := HJ.out.2 (by omega)
            have u1 := keepAt hBx3 hp1 (hu1 k2 hlt2)
            have u2 := keepAt hBx3 hp2 (hu2 k2 hlt2)
            clear hu1 hu2
            go_upto_region 15 with fail
            go_quiet (fail)
            go_wp2
            go_roundw
            case measure => simp [intOf]; omega
            case rel => exact ⟨k2 + 1, q + nq, by omega, by go_num, rfl⟩
          · obtain rfl : k2 = m := by omega
            have hmm : ¬ (k2 : Int) < (k2 : Int) := by omega
            go_wp2
            go_roundw
            case measure => simp [intOf]; omega
            case rel => exact ⟨k + 1, by omega, by go_num, hBx3.grown (grew_drewN wc q) hBx3.size (fun r e => by cases e)⟩
    · obtain rfl : k = n := by omega
      go_wp2
      go_ret
      exact ⟨rfl, step_below hB3 hBr⟩

set_option maxRecDepth 100000 in
theorem traceCalls_lifted (os : Os) (started : os.Started) (H : Type) (enc : TypeId × Value → H) :
    ReturnsInHanded {} Try.checked os 4 .any (Rows.traceCallsSpec.pre6 enc Try.prog Try.f4 Rows.traceCallsRow.domain false) (Rows.traceCallsSpec.post enc Try.prog Try.f4 false true false false) := by
  refine law_lifted started (by kernel_rfl) Try.func4
    (ChangeSpec.witness6 (enc := enc) (C := Try.checked) false ⟨#[], #[.slice none 0 0], []⟩ 8 (by kernel_rfl) (by kernel_rfl) (by kernel_rfl) (by kernel_rfl))
    4 rfl (by kernel_rfl) Try.underlying4 (fun ds h => ?_) (by kernel_rfl) ?_
  · rw [show Try.f4.params.size = 1 from by kernel_rfl] at h
    match ds, h with
    | [_], _ => rfl
  intro W base args ds p hval hA hlt hsz
  rw [Try.params4] at hA hval hsz
  obtain ⟨v0, d0, rfl, rfl, h0⟩ := trodAll_one hA
  obtain ⟨A, len, cap, E, rfl, hlc, hcm, hsl⟩ := open_evs (hval 0 22 v0 rfl rfl) h0 hlt
  by_cases h : len ≤ 400
  · exact traceCalls_true A len cap E h W hsl
  · exact traceCalls_long A len cap W (by omega) (by omega)

theorem traceCalls_holds : Rows.TraceCallsSaid :=
  OpenClaim.holds_of_wide 4 Try.f4 rfl rfl rfl rfl rfl rfl rfl ⟨rfl, rfl, rfl, rfl, rfl⟩ rfl rfl rfl rfl rfl (by kernel_rfl) Try.func4 (by kernel_rfl)
    (of_decide_eq_true (by kernel_rfl)) (by unfold Func.isWrapper; first | (rw [if_pos (by decide +kernel)]; kernel_rfl) | (rw [if_neg (by decide +kernel)]; exact ⟨rfl, rfl⟩))
    (fun os started H enc _ => traceCalls_lifted os started H enc)
end Go.Proofs.Ytidedjjpaoagjaa
