/- Numbers' digits (Num); a text filled in (Fill) (printed by gen/reft4.py). -/
import Derived.Test.YtmhfpjnkjlhbpaaDoorRefT3
import Derived.Laws.BytesArg
namespace Go.Proofs.YtmhfpjnkjlhbpaaDoor
open Go.ChangeShapes Go.WideShapes Go.ChangeAt Go.RowKit Go.Deep
set_option linter.unusedVariables false
set_option maxRecDepth 100000
set_option linter.unusedSimpArgs false

theorem conv_one (d : Nat) (h : d < 10) (g : Nat) (W : World) (hc : W.cell? ⟨g, 0, none⟩ = some (.int .u8 (48 + (d : Int)))) : (convert 58 9 (.slice (some ⟨g, 0, none⟩) 1 1)).run Tryd.prog W = .ok (.string (ba [dig d])) W := by
  have := run_convert_bytes_arg (P := Tryd.prog) W 58 5 Tryd.underlying58 Tryd.underlying5 g 0 1 1 [48 + (d : Int)] rfl (fun i hi => by
    obtain rfl : i = 0 := by omega
    exact hc) 9 Tryd.underlying9
  rw [this]
  congr 2
set_option maxHeartbeats 1000000 in
theorem num_small (n : Nat) (h : n < 10) (w : World) : Calls Tryd.prog 40 #[.int .i64 (n : Int)] w fun e w' => e = .returned (str (numL n)) ∧ Below w.heap.size w w' := by
  rw [numL_lt h]
  have hni : (n : Int) < 10 := by omega
  have hn0 : (0 : Int) ≤ (n : Int) := by omega
  have hB := (Below.refl w.heap.size w).alloc (Nat.le_refl _) (.cells #[.int .u8 (48 + (n : Int))] 5)
  have hv := conv_one n h w.heap.size (w.alloc (.cells #[.int .u8 (48 + (n : Int))] 5)) (((Blk.new w 5 #[.int .u8 (48 + (n : Int))]).cell 0).trans rfl)
  go_enter Tryd.func40, Tryd.ntmps40
  go_wp2_with fail
  go_ret
  exact ⟨rfl, hB⟩

set_option maxHeartbeats 2000000 in
theorem r15_num : ∀ (n : Nat), n ≤ 4294967295 → ∀ (w : World), Calls Tryd.prog 40 #[.int .i64 (n : Int)] w fun e w' => e = .returned (str (numL n)) ∧ Below w.heap.size w w' := by
  intro n
  induction n using Nat.strongRecOn with
  | ind n ih =>
    intro hmax w
    by_cases h : n < 10
    · exact num_small n h w
    · obtain ⟨q, hq⟩ : ∃ q, n / 10 = q := ⟨_, rfl⟩
      obtain ⟨d, hd⟩ : ∃ d, n % 10 = d := ⟨_, rfl⟩
      have cQ := ih q (by omega) (by omega)
      have hd10 : d < 10 := by omega
      have e : numL n = numL q ++ [dig d] := by rw [numL_ge h, hq, hd]
      rw [e]
      have hni : ¬ (n : Int) < 10 := by omega
      have hn0 : (0 : Int) ≤ (n : Int) := by omega
      have hqi : (n : Int) / 10 = (q : Int) := by omega
      have hdi : (n : Int) % 10 = (d : Int) := by omega
      have hd0 : (0 : Int) ≤ (d : Int) := by omega
      have hd9 : (d : Int) ≤ 9 := by omega
      have hqm : (q : Int) ≤ 429496729 := by omega
      have hmaxi : (n : Int) ≤ 4294967295 := by omega
      have w1 : IntKind.i64.wrap (q : Int) = (q : Int) := IntWalk.i64_in _ (by omega)
      have w2 : (n : Int).tmod 10 = (d : Int) := by rw [Int.tmod_eq_emod_of_nonneg hn0]; exact hdi
      have w3 : IntKind.i64.wrap (48 + (d : Int)) = 48 + (d : Int) := IntWalk.i64_in _ (by omega)
      have w4 : IntKind.u8.wrap (48 + (d : Int)) = 48 + (d : Int) := IntWalk.u8_in _ (by omega)
      have w5 : (ba (numL q)).size + (ba [dig d]).size ≤ 9223372036854775807 := by
        rw [ba_size, ba_size]
        have := numL_ten (n := q) (by omega)
        simp; omega
      have hcv := conv_one d hd10
      have hap : ∀ (x : List UInt8), (Value.string (ba x ++ ba [dig d])) = str (x ++ [dig d]) := fun x => by rw [ba_app]; rfl
      have HQ := Lib.hid (And.intro cQ (And.intro hcv hap))
      generalize numL q = x at cQ HQ w5 ⊢
      clear ih e hq hd hcv hap cQ
      go_enter Tryd.func40, Tryd.ntmps40
      go_wp2_with fail
      refine startG (fun W' => Below w.drew.heap.size w.drew W') 10 (by kernel_rfl) ?_
      have hW0 : Below w.heap.size w w.drew := ⟨rfl, rfl, rfl, Nat.le_refl _, fun _ _ => rfl⟩
      generalize w.drew = W0 at hW0 ⊢
      have hS0 : Below W0.heap.size W0 W0 := Below.refl _ _
      refine takeG0 (i := 0) (v := .int .i64 (n : Int)) rfl (by kernel_rfl) (by kernel_rfl) (by kernel_rfl) (by kernel_rfl) (fun _ _ _ h => h) (Or.inl ⟨by rfl, fun W hW => by go_simp⟩) hS0 ?_
      simp only [Act.put, List.getElem_toArray, List.getElem_cons_zero, List.getElem_cons_succ, List.setIfInBounds_toArray, List.set_cons_zero, List.set_cons_succ]
      refine takeG0 (i := 1) (v := .int .i64 (q : Int)) rfl (by kernel_rfl) (by kernel_rfl) (by kernel_rfl) (by kernel_rfl) (fun _ _ _ h => h) (Or.inl ⟨by rfl, fun W hW => by go_simp⟩) hS0 ?_
      simp only [Act.put, List.getElem_toArray, List.getElem_cons_zero, List.getElem_cons_succ, List.setIfInBounds_toArray, List.set_cons_zero, List.set_cons_succ]
      refine takeG0 (i := 3) (v := .int .i64 (n : Int)) rfl (by kernel_rfl) (by kernel_rfl) (by kernel_rfl) (by kernel_rfl) (fun _ _ _ h => h) (Or.inl ⟨by rfl, fun W hW => by go_simp⟩) hS0 ?_
      simp only [Act.put, List.getElem_toArray, List.getElem_cons_zero, List.getElem_cons_succ, List.setIfInBounds_toArray, List.set_cons_zero, List.set_cons_succ]
      refine takeG0 (i := 4) (v := .int .i64 (d : Int)) rfl (by kernel_rfl) (by kernel_rfl) (by kernel_rfl) (by kernel_rfl) (fun _ _ _ h => h) (Or.inl ⟨by rfl, fun W hW => by go_simp⟩) hS0 ?_
      simp only [Act.put, List.getElem_toArray, List.getElem_cons_zero, List.getElem_cons_succ, List.setIfInBounds_toArray, List.set_cons_zero, List.set_cons_succ]
      refine takeG0 (i := 5) (v := .int .i64 (48 + (d : Int))) rfl (by kernel_rfl) (by kernel_rfl) (by kernel_rfl) (by kernel_rfl) (fun _ _ _ h => h) (Or.inl ⟨by rfl, fun W hW => by go_simp⟩) hS0 ?_
      simp only [Act.put, List.getElem_toArray, List.getElem_cons_zero, List.getElem_cons_succ, List.setIfInBounds_toArray, List.set_cons_zero, List.set_cons_succ]
      refine takeG0 (i := 6) (v := .int .u8 (48 + (d : Int))) rfl (by kernel_rfl) (by kernel_rfl) (by kernel_rfl) (by kernel_rfl) (fun _ _ _ h => h) (Or.inl ⟨by rfl, fun W hW => by go_simp⟩) hS0 ?_
      simp only [Act.put, List.getElem_toArray, List.getElem_cons_zero, List.getElem_cons_succ, List.setIfInBounds_toArray, List.set_cons_zero, List.set_cons_succ]
      refine manyG (rs := [2, 7]) (by kernel_rfl) (by simp) (AllG.cons (i := 2) rfl (fun K hK => ?_) (AllG.cons (i := 7) rfl (fun K hK => ?_) AllG.nil))
      · go_simp
        refine (HQ.out.1 W0).mono ?_
        rintro e W1 ⟨rfl, hB1⟩
        rw [str_ba]
        refine hK.out _ _ hB1 (fun _ => ?_)
        clear hK K
        refine onlyG (i := 7) (by kernel_rfl) rfl (fun K hK => ?_)
        go_simp
        have hal := step_below hB1 ((Below.refl W1.heap.size W1).alloc (Nat.le_refl _) (.cells #[.int .u8 (48 + (d : Int))] 5))
        have hc := ((Blk.new W1 5 #[.int .u8 (48 + (d : Int))]).cell 0).trans rfl
        obtain ⟨g, hg⟩ : ∃ g, W1.heap.size = g := ⟨_, rfl⟩
        rw [hg] at hc
        have hgl : g < (W1.alloc (.cells #[.int .u8 (48 + (d : Int))] 5)).heap.size := by rw [← hg]; simp
        generalize W1.alloc (.cells #[.int .u8 (48 + (d : Int))] 5) = W2 at hal hc hgl hK ⊢
        refine hK.out _ _ hal (fun _ => ?_)
        clear hK K hB1
        try rw [hg]
        clear hg
        refine onlyG (i := 8) (by kernel_rfl) rfl (fun K hK => ?_)
        have hcv := HQ.out.2.1 g W2 hc
        go_simp
        refine hK.out _ _ hal (fun _ => ?_)
        clear hK K hcv
        refine takeG0 (i := 9) (v := .string (ba x ++ ba [dig d])) rfl (by kernel_rfl) (by kernel_rfl) (by kernel_rfl) (by kernel_rfl) (fun _ _ _ h => h) (Or.inl ⟨by rfl, fun W hW => by go_simp⟩) hal ?_
        simp only [Act.put, List.getElem_toArray, List.getElem_cons_zero, List.getElem_cons_succ, List.setIfInBounds_toArray, List.set_cons_zero, List.set_cons_succ]
        refine lastG (by kernel_rfl) rfl (by kernel_rfl) (fun K hK => ?_)
        go_simp
        refine hK.out _ _ ?_
        clear hK K
        go_wp2
        go_ret
        exact ⟨congrArg Ending.returned (HQ.out.2.2 x), hW0.trans (hal.mono hW0.size)⟩
      · go_simp
        have hal := (Below.refl W0.heap.size W0).alloc (Nat.le_refl _) (.cells #[.int .u8 (48 + (d : Int))] 5)
        have hc := ((Blk.new W0 5 #[.int .u8 (48 + (d : Int))]).cell 0).trans rfl
        have hgl : W0.heap.size < (W0.alloc (.cells #[.int .u8 (48 + (d : Int))] 5)).heap.size := by simp
        refine hK.out _ _ hal (fun _ => ?_)
        clear hK K
        generalize hW2 : W0.alloc (.cells #[.int .u8 (48 + (d : Int))] 5) = W2 at hal hc hgl ⊢
        refine manyG (rs := [2, 8]) (by kernel_rfl) (by simp) (AllG.cons (i := 2) rfl (fun K hK => ?_) (AllG.cons (i := 8) rfl (fun K hK => ?_) AllG.nil))
        · go_simp
          refine (HQ.out.1 W2).mono ?_
          rintro e W3 ⟨rfl, hB3⟩
          rw [str_ba]
          have hal3 := step_below hal hB3
          have hc3 := keepAt hB3 hgl hc
          refine hK.out _ _ hal3 (fun _ => ?_)
          clear hK K
          refine onlyG (i := 8) (by kernel_rfl) rfl (fun K hK => ?_)
          have hcv := HQ.out.2.1 W0.heap.size W3 hc3
          go_simp
          refine hK.out _ _ hal3 (fun _ => ?_)
          clear hK K hcv
          refine takeG0 (i := 9) (v := .string (ba x ++ ba [dig d])) rfl (by kernel_rfl) (by kernel_rfl) (by kernel_rfl) (by kernel_rfl) (fun _ _ _ h => h) (Or.inl ⟨by rfl, fun W hW => by go_simp⟩) hal3 ?_
          simp only [Act.put, List.getElem_toArray, List.getElem_cons_zero, List.getElem_cons_succ, List.setIfInBounds_toArray, List.set_cons_zero, List.set_cons_succ]
          refine lastG (by kernel_rfl) rfl (by kernel_rfl) (fun K hK => ?_)
          go_simp
          refine hK.out _ _ ?_
          clear hK K
          go_wp2
          go_ret
          exact ⟨congrArg Ending.returned (HQ.out.2.2 x), hW0.trans (hal3.mono hW0.size)⟩
        · have hcv := HQ.out.2.1 W0.heap.size W2 hc
          go_simp
          refine hK.out _ _ hal (fun _ => ?_)
          clear hK K hcv
          refine onlyG (i := 2) (by kernel_rfl) rfl (fun K hK => ?_)
          go_simp
          refine (HQ.out.1 W2).mono ?_
          rintro e W3 ⟨rfl, hB3⟩
          rw [str_ba]
          have hal3 := step_below hal hB3
          refine hK.out _ _ hal3 (fun _ => ?_)
          clear hK K
          refine takeG0 (i := 9) (v := .string (ba x ++ ba [dig d])) rfl (by kernel_rfl) (by kernel_rfl) (by kernel_rfl) (by kernel_rfl) (fun _ _ _ h => h) (Or.inl ⟨by rfl, fun W hW => by go_simp⟩) hal3 ?_
          simp only [Act.put, List.getElem_toArray, List.getElem_cons_zero, List.getElem_cons_succ, List.setIfInBounds_toArray, List.set_cons_zero, List.set_cons_succ]
          refine lastG (by kernel_rfl) rfl (by kernel_rfl) (fun K hK => ?_)
          go_simp
          refine hK.out _ _ ?_
          clear hK K
          go_wp2
          go_ret
          exact ⟨congrArg Ending.returned (HQ.out.2.2 x), hW0.trans (hal3.mono hW0.size)⟩
end Go.Proofs.YtmhfpjnkjlhbpaaDoor
