/- GateOnce: the law. -/
import Derived.Test.YtmhfpjnkjlhbpaaGreatDoorQa23
import Derived.Test.YtmhfpjnkjlhbpaaGreatDoorQa38
import Derived.Deep.DeepMust
namespace Go.Proofs.YtmhfpjnkjlhbpaaGreatDoor
open Go.ChangeShapes Go.WideShapes Go.ChangeAt Go.RowKit Go.Deep
set_option linter.unusedVariables false
set_option maxRecDepth 100000
set_option linter.unusedSimpArgs false

theorem onceE_out (t : Nat) : (BB.genter BB.e 16 (t : Int)).out = [⟨16, 4, 8, 0, 17⟩, ⟨1, 5, 0, 0, (t : Int) + 1⟩, ⟨12, 6, 4, 5, 0⟩, ⟨14, 6, 0, 0, 6⟩, ⟨1, 7, 0, 0, 1⟩, ⟨13, 0, 0, 0, 23⟩, ⟨16, 4, 8, 0, 16⟩, ⟨1, 6, 0, 0, 2⟩, ⟨12, 6, 4, 6, 0⟩, ⟨15, 6, 0, 0, 22⟩, ⟨1, 4, 0, 0, 0⟩, ⟨1, 6, 0, 0, 1⟩, ⟨21, 4, 8, 6, 16⟩, ⟨14, 4, 0, 0, 19⟩, ⟨1, 6, 0, 0, 1⟩, ⟨12, 6, 4, 6, 0⟩, ⟨14, 6, 0, 0, 6⟩, ⟨23, 4, 8, 0, 16⟩, ⟨13, 0, 0, 0, 6⟩, ⟨17, 5, 8, 0, 17⟩, ⟨1, 7, 0, 0, 5⟩, ⟨13, 0, 0, 0, 23⟩, ⟨1, 7, 0, 0, 0⟩] := by kernel_rfl
theorem onceD_out (t : Nat) : (BB.gdone BB.e 16 (t : Int)).out = [⟨16, 4, 8, 0, 17⟩, ⟨1, 5, 0, 0, (t : Int) + 1⟩, ⟨12, 6, 4, 5, 0⟩, ⟨15, 6, 0, 0, 6⟩, ⟨1, 7, 0, 0, 2⟩, ⟨13, 0, 0, 0, 13⟩, ⟨1, 4, 0, 0, 0⟩, ⟨17, 4, 8, 0, 17⟩, ⟨1, 4, 0, 0, 2⟩, ⟨19, 4, 8, 0, 16⟩, ⟨1, 4, 0, 0, 4294967295⟩, ⟨24, 4, 8, 0, 16⟩, ⟨1, 7, 0, 0, 0⟩] := by kernel_rfl
theorem onceE_ok (t : Nat) (ht : t ≤ 8) : ∀ x ∈ [(⟨16, 4, 8, 0, 17⟩ : Ins), ⟨1, 5, 0, 0, (t : Int) + 1⟩, ⟨12, 6, 4, 5, 0⟩, ⟨14, 6, 0, 0, 6⟩, ⟨1, 7, 0, 0, 1⟩, ⟨13, 0, 0, 0, 23⟩, ⟨16, 4, 8, 0, 16⟩, ⟨1, 6, 0, 0, 2⟩, ⟨12, 6, 4, 6, 0⟩, ⟨15, 6, 0, 0, 22⟩, ⟨1, 4, 0, 0, 0⟩, ⟨1, 6, 0, 0, 1⟩, ⟨21, 4, 8, 6, 16⟩, ⟨14, 4, 0, 0, 19⟩, ⟨1, 6, 0, 0, 1⟩, ⟨12, 6, 4, 6, 0⟩, ⟨14, 6, 0, 0, 6⟩, ⟨23, 4, 8, 0, 16⟩, ⟨13, 0, 0, 0, 6⟩, ⟨17, 5, 8, 0, 17⟩, ⟨1, 7, 0, 0, 5⟩, ⟨13, 0, 0, 0, 23⟩, ⟨1, 7, 0, 0, 0⟩], x.Ok := fun x hx => by
  simp only [List.mem_cons, List.not_mem_nil, or_false] at hx
  rcases hx with rfl | rfl | rfl | rfl | rfl | rfl | rfl | rfl | rfl | rfl | rfl | rfl | rfl | rfl | rfl | rfl | rfl | rfl | rfl | rfl | rfl | rfl | rfl <;> exact insOk (by omega)
theorem onceD_ok (t : Nat) (ht : t ≤ 8) : ∀ x ∈ [(⟨16, 4, 8, 0, 17⟩ : Ins), ⟨1, 5, 0, 0, (t : Int) + 1⟩, ⟨12, 6, 4, 5, 0⟩, ⟨15, 6, 0, 0, 6⟩, ⟨1, 7, 0, 0, 2⟩, ⟨13, 0, 0, 0, 13⟩, ⟨1, 4, 0, 0, 0⟩, ⟨17, 4, 8, 0, 17⟩, ⟨1, 4, 0, 0, 2⟩, ⟨19, 4, 8, 0, 16⟩, ⟨1, 4, 0, 0, 4294967295⟩, ⟨24, 4, 8, 0, 16⟩, ⟨1, 7, 0, 0, 0⟩], x.Ok := fun x hx => by
  simp only [List.mem_cons, List.not_mem_nil, or_false] at hx
  rcases hx with rfl | rfl | rfl | rfl | rfl | rfl | rfl | rfl | rfl | rfl | rfl | rfl | rfl <;> exact insOk (by omega)
theorem once_round (t L : Nat) (hL : L ≤ 4000) : (onceL t L).map Op.ins = [(⟨27, 7, 0, 0, 0⟩ : Ins)] ++ (BB.genter BB.e 16 (t : Int)).out.map (movedI ((L : Int) + 1)) ++ [⟨27, 7, 0, 0, 1⟩] ++ [⟨14, 7, 0, 0, (L : Int) + 41⟩] ++ [⟨27, 7, 0, 0, 2⟩] ++ (BB.gdone BB.e 16 (t : Int)).out.map (movedI ((L : Int) + 27)) ++ [⟨27, 7, 0, 0, 3⟩] := by
  rw [onceE_out, onceD_out]
  simp [onceL, Op.ins, movedI, jmpB, aluF_add]
  omega
theorem min_lens (n k : Nat) : (if (k : Int) < (n : Int) then (k : Int) else (n : Int)) = ((min n k : Nat) : Int) := by
  by_cases c : k < n
  · rw [if_pos (by omega), Nat.min_eq_right (by omega)]
  · rw [if_neg (by omega), Nat.min_eq_left (by omega)]
set_option maxHeartbeats 40000000 in
theorem gateOnce_true (A : Option Addr) (n cap : Nat) (Z : Nat → Int) (room : Int) (sA : Option Addr) (sn scap : Nat) (Y : Nat → Int) (hn : n ≤ cap) (hcm : cap ≤ maxLen) (hz : ∀ i, i < n → 0 ≤ Z i ∧ Z i ≤ 255) (hr : 0 ≤ room ∧ room ≤ 255) (hsn : sn ≤ scap) (hsm : scap ≤ maxLen) (hy : ∀ i, i < sn → 0 ≤ Y i ∧ Y i ≤ 255)
    (w : World) (hT : Tab w) (hO : ONam w) (hs : Sl w A n (fun i => .int .u8 (Z i))) (hss : Sl w sA sn (fun i => .int .u8 (Y i))) :
    Calls Tryz.prog 9 #[.agg #[.slice A n cap, .int .u8 room], .slice sA sn scap] w fun e w' => e = .returned (.bool true) ∧ Below w.heap.size w w' := by
  have hal := (Below.refl w.heap.size w).alloc (Nat.le_refl _) (.cells #[.slice A n cap, .int .u8 room] 87)
  have cA := awake21_any _ (hT.step hal) (hO.step hal)
  have hX := Blk.new w 87 #[.slice A n cap, .int .u8 room]
  have HI := Lib.hid (And.intro hT (And.intro hO (And.intro hs hss)))
  have HW := Lib.hid (And.intro hX (And.intro hal (And.intro (hs.step hal) (And.intro (hss.step hal) (And.intro (hT.step hal) (hO.step hal))))))
  have HZ := Lib.hid (And.intro hz (And.intro hy (And.intro hn (And.intro hcm (And.intro hsn hsm)))))
  clear hX hal hs hss hT hO hz hy hn hcm hsm
  obtain ⟨xb, hxb⟩ : ∃ xb, w.heap.size = xb := ⟨_, rfl⟩
  have HX0 := Lib.hid hxb.symm
  generalize hW1 : w.alloc (.cells #[.slice A n cap, .int .u8 room] 87) = W1 at cA HW
  rw [hxb] at HW
  go_enter Tryz.func9, Tryz.ntmps9
  go_wp2_with fail
  try rw [hW1]
  try rw [hxb]
  by_cases h3000 : sn ≤ 3000
  case neg =>
    have h3 : ((3000 : Int) < (sn : Int)) := by omega
    with_reducible refine cA.mono ?_
    rintro e Wa ⟨rfl, hB⟩
    have cA2 := awake21_any Wa (HW.out.2.2.2.2.1.step hB) (HW.out.2.2.2.2.2.step hB)
    have HB := Lib.hid hB
    clear cA hB
    go_wp2_with fail
    with_reducible refine cA2.mono ?_
    rintro e Wb ⟨rfl, hB2⟩
    clear cA2
    go_wp2
    go_ret
    rw [hxb]
    exact ⟨rfl, (HW.out.2.1.trans (HB.out.mono (by have := HW.out.2.1.size; omega))).trans (hB2.mono (by have := HW.out.2.1.size; have := HB.out.size; omega))⟩
  case pos =>
    have h3 : ¬ ((3000 : Int) < (sn : Int)) := by omega
    with_reducible refine cA.mono ?_
    rintro e Wa ⟨rfl, hB⟩
    clear cA hW1
    have hX := HW.out.1.below hB HW.out.1.lt
    have x0 := (hX.cell 0).trans rfl
    have x1 := (hX.cell 1).trans rfl
    have hxl : xb < Wa.heap.size := hX.lt
    go_upto_region 4 with fail
    generalize hWb : Wa.alloc (.cells #[.int .i64 15, .int .i64 0, .int .i64 0, .int .i64 0] 46) = Wb

    go_cut [6] (fun v6 wc => v6 = .int .i64 ((min n 4 : Nat) : Int) ∧ wc = Wb)
    case first =>
      have x0b : Wb.cell? ⟨xb, 0, none⟩ = some (.slice A n cap) := by rw [← hWb]; exact ((hX.alloc _).cell 0).trans rfl
      have e := min_lens n 4
      go_wp2_with fail
      all_goals go_meet
      all_goals exact ⟨by congr 1; omega, rfl⟩
    case rest =>
      obtain ⟨rfl, rfl⟩ := hcut
      obtain ⟨Wb, rfl⟩ : ∃ Wb, Wb = wc := ⟨_, rfl⟩
      have hXb : Blk Wb xb 87 #[.slice A n cap, .int .u8 room] := by rw [← hWb]; exact hX.alloc _
      have hObb : Blk Wb Wa.heap.size 46 #[.int .i64 15, .int .i64 0, .int .i64 0, .int .i64 0] := by rw [← hWb]; exact Blk.new Wa 46 #[.int .i64 15, .int .i64 0, .int .i64 0, .int .i64 0]
      have hBa : Below xb w Wb := by
        rw [← hWb]
        have h1 := step_belowN HW.out.2.1 hB (by have := HW.out.2.1.size; omega)
        exact h1.alloc (by have := h1.size; omega) _
      obtain ⟨ob, hob⟩ : ∃ ob, Wa.heap.size = ob := ⟨_, rfl⟩
      rw [hob] at hObb
      try rw [hob]
      have HE := Lib.hid (And.intro hXb (And.intro hObb hBa))
      obtain ⟨th, hth⟩ : ∃ th, min n 4 = th := ⟨_, rfl⟩
      rw [hth]
      have HTH := Lib.hid hth
      clear hX x0 x1 hxl hWb hB hob hXb hObb hBa hth
      obtain ⟨mz, hmz⟩ : ∃ mz, (List.replicate 18 (Value.int .u32 0)).toArray = mz := ⟨_, rfl⟩
      have HMZ := Lib.hid (And.intro hmz (show ∀ w : World, (Instr.makeSlice 27 (.int .i64 18) (.int .i64 18)).run Tryz.prog w = .ok (.slice (some ⟨w.heap.size, 0, none⟩) 18 18) (w.alloc (.cells mz 42)) from fun w => by rw [← hmz]; exact makeW 18 (by decide) w))
      clear hmz
      go_upto_region 5 with fail
      go_cut [7] (fun v7 wx => ∃ pb mb, v7 = .pointer (some ⟨pb, 0, none⟩) ∧ Blk wx pb 29 #[.slice none 0 0, .slice (some ⟨mb, 0, none⟩) 18 18, .int .i64 (1 + room % 4)] ∧ Blk wx mb 42 mz ∧ Wb.heap.size ≤ pb ∧ Wb.heap.size ≤ mb ∧ mb ≠ pb ∧ Below Wb.heap.size Wb wx)
      case first =>
        as_aux_lemma =>
          have hmk := HMZ.out.2
          have hwr : IntKind.i64.wrap room = room := IntWalk.i64_in _ (by omega)
          have htm : Int.tmod room 4 = room % 4 := Int.tmod_eq_emod_of_nonneg hr.1
          have hwr2 : IntKind.i64.wrap (1 + room % 4) = 1 + room % 4 := IntWalk.i64_in _ (by omega)
          have hwr3 : IntKind.i64.wrap (room % 4) = room % 4 := IntWalk.i64_in _ (by omega)
          refine startG (fun W' => Below Wb.drew.heap.size Wb.drew W') 8 (by kernel_rfl) ?_
          have HX := Lib.hid HE.out.1.drew
          have HBW := Lib.hid (And.intro (below_drewB Wb) HE.out.2.2)
          have hH : Below Wb.drew.heap.size Wb.drew Wb.drew := Below.refl _ _
          have HSZ := Lib.hid (show Wb.drew.heap.size = Wb.heap.size from rfl)
          generalize Wb.drew = W0 at HX HBW hH HSZ ⊢
          refine takeG0 (i := 0) (v := .pointer (some ⟨xb, 1, none⟩)) rfl (by kernel_rfl) (by kernel_rfl) (by kernel_rfl) (by kernel_rfl) (fun _ _ _ h => h) (Or.inl ⟨by rfl, fun W hW => by go_simp⟩) hH ?_
          simp only [Act.put, List.getElem_toArray, List.getElem_cons_zero, List.getElem_cons_succ, List.setIfInBounds_toArray, List.set_cons_zero, List.set_cons_succ]
          refine takeG (i := 1) (v := .int .u8 room) rfl (by kernel_rfl) (by kernel_rfl) (by kernel_rfl) (by kernel_rfl) (fun _ _ _ h => h) (Or.inl ⟨by rfl, fun W hW => by have q0 := ((HX.out.below hW HX.out.lt).cell 1).trans rfl; go_simp⟩) hH ?_
          simp only [Act.put, List.getElem_toArray, List.getElem_cons_zero, List.getElem_cons_succ, List.setIfInBounds_toArray, List.set_cons_zero, List.set_cons_succ]
          refine takeG0 (i := 2) (v := .int .i64 room) rfl (by kernel_rfl) (by kernel_rfl) (by kernel_rfl) (by kernel_rfl) (fun _ _ _ h => h) (Or.inl ⟨by rfl, fun W hW => by go_simp⟩) hH ?_
          simp only [Act.put, List.getElem_toArray, List.getElem_cons_zero, List.getElem_cons_succ, List.setIfInBounds_toArray, List.set_cons_zero, List.set_cons_succ]
          refine takeG0 (i := 3) (v := .int .i64 (room % 4)) rfl (by kernel_rfl) (by kernel_rfl) (by kernel_rfl) (by kernel_rfl) (fun _ _ _ h => h) (Or.inl ⟨by rfl, fun W hW => by go_simp⟩) hH ?_
          simp only [Act.put, List.getElem_toArray, List.getElem_cons_zero, List.getElem_cons_succ, List.setIfInBounds_toArray, List.set_cons_zero, List.set_cons_succ]
          refine takeG0 (i := 4) (v := .int .i64 (1 + room % 4)) rfl (by kernel_rfl) (by kernel_rfl) (by kernel_rfl) (by kernel_rfl) (fun _ _ _ h => h) (Or.inl ⟨by rfl, fun W hW => by go_simp⟩) hH ?_
          simp only [Act.put, List.getElem_toArray, List.getElem_cons_zero, List.getElem_cons_succ, List.setIfInBounds_toArray, List.set_cons_zero, List.set_cons_succ]
          refine manyG (rs := [5, 7]) (by kernel_rfl) (by simp) (AllG.cons (i := 5) rfl (fun K hK => ?_) (AllG.cons (i := 7) rfl (fun K hK => ?_) AllG.nil))
          · go_simp
            have m0 := Blk.new W0 42 mz
            have hA := hH.alloc hH.size (Obj.cells mz 42)
            refine hK.out _ _ hA (fun _ => ?_)
            clear hK K
            try simp only [Act.put, List.getElem_toArray, List.getElem_cons_zero, List.getElem_cons_succ, List.setIfInBounds_toArray, List.set_cons_zero, List.set_cons_succ]
            refine takeG0 (i := 6) (v := .agg #[.slice none 0 0, .slice (some ⟨W0.heap.size, 0, none⟩) 18 18, .int .i64 (1 + room % 4)]) rfl (by kernel_rfl) (by kernel_rfl) (by kernel_rfl) (by kernel_rfl) (fun _ _ _ h => h) (Or.inl ⟨by rfl, fun W hW => by go_simp⟩) hA ?_
            simp only [Act.put, List.getElem_toArray, List.getElem_cons_zero, List.getElem_cons_succ, List.setIfInBounds_toArray, List.set_cons_zero, List.set_cons_succ]
            refine onlyG (i := 7) (by kernel_rfl) rfl (fun K hK => ?_)
            go_simp
            have p0 := Blk.new (W0.alloc (Obj.cells mz 42)) 29 #[.slice none 0 0, .slice none 0 0, .int .i64 0]
            have hA1 := hA.alloc hA.size (Obj.cells #[.slice none 0 0, .slice none 0 0, .int .i64 0] 29)
            have m1 := m0.alloc (Obj.cells #[.slice none 0 0, .slice none 0 0, .int .i64 0] 29)
            have hz : (W0.alloc (Obj.cells mz 42)).heap.size = W0.heap.size + 1 := by simp
            rw [hz] at p0
            refine hK.out _ _ hA1 (fun _ => ?_)
            clear hK K
            try simp only [Act.put, List.getElem_toArray, List.getElem_cons_zero, List.getElem_cons_succ, List.setIfInBounds_toArray, List.set_cons_zero, List.set_cons_succ]
            refine lastG (by kernel_rfl) rfl (by kernel_rfl) (fun K hK => ?_)
            refine step_store_row rfl 29 (.tmp 7) (.tmp 42) rfl _ rfl #[.slice none 0 0, .slice (some ⟨W0.heap.size, 0, none⟩) 18 18, .int .i64 (1 + room % 4)] rfl 29 #[.slice none 0 0, .slice none 0 0, .int .i64 0] p0 rfl pg_info (by simp [Value.oneCell']) ?_
            intro W3 hb3 hg3
            refine hK.out _ _ ?_
            clear hK K
            have hm3 := m1.grown hg3 (fun e => by have := Option.some.inj e; omega)
            have hB3 := below_row hA1 hg3 hA1.size (by omega)
            go_wp2_with fail
            go_meet
            have hsz := HSZ.out
            have h3z := hm3.lt
            case rel => exact ⟨_, _, rfl, hb3, hm3, by omega, by omega, by omega, step_belowN HBW.out.1 hB3 HBW.out.1.size⟩
          · go_simp
            have p0 := Blk.new W0 29 #[.slice none 0 0, .slice none 0 0, .int .i64 0]
            have hA := hH.alloc hH.size (Obj.cells #[.slice none 0 0, .slice none 0 0, .int .i64 0] 29)
            refine hK.out _ _ hA (fun _ => ?_)
            clear hK K
            try simp only [Act.put, List.getElem_toArray, List.getElem_cons_zero, List.getElem_cons_succ, List.setIfInBounds_toArray, List.set_cons_zero, List.set_cons_succ]
            refine onlyG (i := 5) (by kernel_rfl) rfl (fun K hK => ?_)
            go_simp
            have m0 := Blk.new (W0.alloc (Obj.cells #[.slice none 0 0, .slice none 0 0, .int .i64 0] 29)) 42 mz
            have hA1 := hA.alloc hA.size (Obj.cells mz 42)
            have p1 := p0.alloc (Obj.cells mz 42)
            have hz : (W0.alloc (Obj.cells #[.slice none 0 0, .slice none 0 0, .int .i64 0] 29)).heap.size = W0.heap.size + 1 := by simp
            rw [hz] at m0
            refine hK.out _ _ hA1 (fun _ => ?_)
            clear hK K
            try simp only [Act.put, List.getElem_toArray, List.getElem_cons_zero, List.getElem_cons_succ, List.setIfInBounds_toArray, List.set_cons_zero, List.set_cons_succ]
            refine takeG0 (i := 6) (v := .agg #[.slice none 0 0, .slice (some ⟨W0.heap.size + 1, 0, none⟩) 18 18, .int .i64 (1 + room % 4)]) rfl (by kernel_rfl) (by kernel_rfl) (by kernel_rfl) (by kernel_rfl) (fun _ _ _ h => h) (Or.inl ⟨by rfl, fun W hW => by go_simp⟩) hA1 ?_
            simp only [Act.put, List.getElem_toArray, List.getElem_cons_zero, List.getElem_cons_succ, List.setIfInBounds_toArray, List.set_cons_zero, List.set_cons_succ]
            refine lastG (by kernel_rfl) rfl (by kernel_rfl) (fun K hK => ?_)
            refine step_store_row rfl 29 (.tmp 7) (.tmp 42) rfl _ rfl #[.slice none 0 0, .slice (some ⟨W0.heap.size + 1, 0, none⟩) 18 18, .int .i64 (1 + room % 4)] rfl 29 #[.slice none 0 0, .slice none 0 0, .int .i64 0] p1 rfl pg_info (by simp [Value.oneCell']) ?_
            intro W3 hb3 hg3
            refine hK.out _ _ ?_
            clear hK K
            have hm3 := m0.grown hg3 (fun e => by have := Option.some.inj e; omega)
            have hB3 := below_row hA1 hg3 hA1.size (by omega)
            go_wp2_with fail
            go_meet
            have hsz := HSZ.out
            have h3z := hm3.lt
            case rel => exact ⟨_, _, rfl, hb3, hm3, by omega, by omega, by omega, step_belowN HBW.out.1 hB3 HBW.out.1.size⟩
      case rest =>
        obtain ⟨pb, mb, rfl, hP, hM, hpb, hmb, hne, hBd⟩ := hcut
        have hX5 := HE.out.1.below hBd HE.out.1.lt
        have hO5 := HE.out.2.1.below hBd HE.out.2.1.lt
        have hB5 := step_belowN HE.out.2.2 hBd (by have := HE.out.2.2.size; omega)
        have hxo : xb ≠ pb ∧ ob ≠ pb := by have h1 := HE.out.1.lt; have h2 := HE.out.2.1.lt; omega
        obtain ⟨W5, rfl⟩ : ∃ W5, W5 = wc := ⟨_, rfl⟩
        have HF := Lib.hid (And.intro hX5 (And.intro hO5 (And.intro hB5 (And.intro hxo (And.intro hP (And.intro hM (And.intro hne (show xb ≤ pb from by have h1 := HE.out.1.lt; omega))))))))
        clear hP hM hpb hmb hne hBd hX5 hO5 hB5 hxo
        go_wp2_with fail
        go_loopw [8, 9] (fun v8 v9 wr => ∃ (k : Nat) (v : Value), k ≤ th ∧ v9 = .int .i64 (k : Int) ∧ v8 = .bool true ∧ Blk wr pb 29 #[v, .slice (some ⟨mb, 0, none⟩) 18 18, .int .i64 (1 + room % 4)] ∧ CdRow wr W5.heap.size v ((List.range k).map fun t => (codeOf (fun q => onceL t (q * 41)) (1 + (Z t % 3).toNat)).map Op.ins) ∧ W5.grownBy wr (some pb)) (fun v8 v9 _ => th - (intOf v9).toNat)
        case atStart => exact ⟨0, .slice none 0 0, Nat.zero_le _, rfl, rfl, HF.out.2.2.2.2.1, CdRow.nil _ _, ⟨rfl, rfl, rfl, Nat.le_refl _, fun _ _ _ => rfl⟩⟩
        case round =>
          obtain ⟨wo, rfl⟩ : ∃ wo : World, wo = wr := ⟨_, rfl⟩
          obtain ⟨k, v, hk, rfl, rfl, hPk, hCk, hgk⟩ := hrel
          by_cases hlt : k < th
          case neg =>
            obtain rfl : th = k := by omega
            have hlt' : ¬ (th : Int) < (th : Int) := by omega
            have hth4 : th ≤ 4 ∧ th ≤ n := by have := HTH.out; omega
            have hBw : Below xb w wo := HF.out.2.2.1.trans (below_of_grown (by have := HF.out.2.2.1.size; omega) hgk (fun g e => by rw [← Option.some.inj e]; exact HF.out.2.2.2.2.2.2.2))
            have hBw' : Below w.heap.size w wo := HX0.out ▸ hBw
            by_cases h0 : th = 0
            case pos =>
              have h0' : (th : Int) = 0 := by omega
              have HBX := Lib.hid hBw
              clear hPk hCk hgk hBw hBw'
              go_wp2
              go_ret
              exact ⟨rfl, HBX.out⟩
            case neg =>
              as_aux_lemma =>
                have h0' : ¬ (th : Int) = 0 := by omega
                obtain ⟨vA, vc, hve⟩ := hCk.cap
                rw [List.length_map, List.length_range] at hve
                subst hve
                have p0 := (hPk.cell 0).trans rfl
                have p1 := (hPk.cell 1).trans rfl
                have p2 := (hPk.cell 2).trans rfl
                have hMk := HF.out.2.2.2.2.2.1.grown hgk (fun e => HF.out.2.2.2.2.2.2.1 (Option.some.inj e))
                have hmem : Sl wo (some ⟨mb, 0, none⟩) 18 (fun _ => .int .u32 0) := fun _ => ⟨mb, 0, rfl, hMk.lt, fun i hi => by
                  rw [Nat.zero_add, hMk.cell, ← HMZ.out.1]
                  simp only [List.getElem?_toArray, List.getElem?_replicate, if_pos hi]⟩
                obtain ⟨rdf, hrdf⟩ : ∃ rdf : Nat → Nat, (fun t => 1 + (Z t % 3).toNat) = rdf := ⟨_, rfl⟩
                have hrd3 : ∀ t, t < th → rdf t ≤ 3 := fun t ht => by rw [← hrdf]; show 1 + (Z t % 3).toNat ≤ 3; omega
                have hLe : ((List.range th).map fun t => (codeOf (fun q => onceL t (q * 41)) (1 + (Z t % 3).toNat)).map Op.ins) = (List.range th).map (onceC rdf) := by rw [← hrdf]; rfl
                rw [hLe] at hCk
                have hL : ∀ l ∈ (List.range th).map (onceC rdf), ∃ t, t < th ∧ l = onceC rdf t := fun l hl => by
                  obtain ⟨t, h1, h2⟩ := List.mem_map.1 hl
                  exact ⟨t, List.mem_range.1 h1, h2.symm⟩
                obtain ⟨vA', vc', cds, hv', pO, pC, pA, pcd⟩ := hCk.prog (fun l hl x hx => by obtain ⟨t, h1, rfl⟩ := hL l hl; exact (onceC_good rdf t (by omega) (hrd3 t h1)).1 x hx) (fun l hl x hx => by obtain ⟨t, h1, rfl⟩ := hL l hl; exact (onceC_good rdf t (by omega) (hrd3 t h1)).2.1 x hx)
                  (fun l hl => by obtain ⟨t, h1, rfl⟩ := hL l hl; rw [(onceC_good rdf t (by omega) (hrd3 t h1)).2.2]; have := hrd3 t h1; omega) (by rw [List.length_map, List.length_range]; omega) (room := 1 + room % 4) (by omega) (mA := some ⟨mb, 0, none⟩) (m := 18) (mcap := 18) (by decide) (by decide) hmem
                rw [List.length_map, List.length_range] at hv' pO pC pA pcd
                injection hv' with e1 _ e2
                subst e1 e2
                obtain ⟨pg, hpg⟩ : ∃ pg, lPg vA th vc cds (some ⟨mb, 0, none⟩) 18 18 (1 + room % 4) = pg := ⟨_, rfl⟩
                have cN := tsoNew_ok pg (hpg ▸ pO) 0 0 (hpg ▸ pC) wo (HI.out.1.step hBw') (hpg ▸ pA)
                have hpv : pg.val = .agg #[.slice vA th vc, .slice (some ⟨mb, 0, none⟩) 18 18, .int .i64 (1 + room % 4)] := by rw [← hpg]; rfl
                rw [hpv] at cN
                have pcd' : ∀ t, t < th → (pg.cd t).len = (onceC rdf t).length ∧ (pg.cd t).F = fun i => (onceC rdf t).getD i default := fun t ht => by
                  have h := pcd t ht
                  have e : ((List.range th).map (onceC rdf)).getD t [] = onceC rdf t := by simp [List.getD_eq_getElem?_getD, List.getElem?_map, List.getElem?_range ht]
                  rw [e] at h
                  rw [← hpg]
                  exact h
                have HPG := Lib.hid (And.intro (hpg ▸ pO) (And.intro (show 1 ≤ pg.room ∧ pg.room ≤ 16 by rw [← hpg]; show 1 ≤ 1 + room % 4 ∧ 1 + room % 4 ≤ 16; omega) (And.intro (show pg.m = 18 by rw [← hpg]; rfl) (And.intro (show ∀ i, pg.Z i = 0 by rw [← hpg]; exact fun _ => rfl) (And.intro (show pg.n = th by rw [← hpg]; rfl) (And.intro hrd3 pcd'))))))
                have HBW := Lib.hid hBw'
                clear hPk hCk hgk hBw hMk hmem hLe hL pO pC pA pcd pcd' hpv hrd3 hBw' hrdf hpg
                go_wp2_with fail
                with_reducible refine cN.mono ?_
                rintro e W6 ⟨B, rfl, hNew, hroom, hI, hB6⟩
                clear cN p0 p1 p2
                have hBok := newM_ok hNew (by rw [HPG.out.2.2.2.2.1]; omega) (by rw [HPG.out.2.2.1]; decide)
                have hOk0 := t0_ok HPG.out.1 hNew
                have hb6 : Below w.heap.size w W6 := step_below HBW.out hB6
                have hss6 := HI.out.2.2.2.step hb6
                have cR := pickRead_any sA sn scap Y W6 (by omega) hss6 HZ.out.2.1
                have HM := Lib.hid (And.intro hNew (And.intro hroom (And.intro hI (And.intro hb6 (And.intro hBok hOk0)))))
                clear hNew hroom hI hB6 hBok hOk0 hb6 hss6
                go_wp2_with fail
                with_reducible refine cR.mono ?_
                rintro e W7 ⟨cs7, rfl, hb7, hs7, hc7, hB7⟩
                clear cR
                obtain ⟨F, hF⟩ : ∃ F : Nat → Int × Int, (fun i => (Y i / 8 % 3, Y i % 8)) = F := ⟨_, rfl⟩
                have hsl : SlE W7 (some ⟨W6.heap.size, 0, none⟩) sn 2 (fun i => pkc (F i)) := fun _ => ⟨_, 0, rfl, hb7.lt, fun i hi j u hu => by
                  rw [← hF] at hu
                  have hq := hc7 i hi
                  have hj : j = 0 ∨ j = 1 := by
                    have := (List.getElem?_eq_some_iff.1 hu).1
                    have h2 : j < 2 := this
                    omega
                  rcases hj with rfl | rfl
                  · rw [Nat.zero_add, Nat.add_zero, hb7.cell, hq.1]; exact hu
                  · rw [Nat.zero_add, hb7.cell, hq.2]; exact hu⟩
                obtain ⟨hNew, hroom, hI6, hb6, hBok, hOk0⟩ := HM.out
                have hI7 := hI6.below hB7
                have cQ := trun2_any B hBok (t0 pg) (by rw [hroom]; exact HPG.out.2.1.2) hOk0 (some ⟨W6.heap.size, 0, none⟩) sn sn F (by
                  unfold EvC
                  show 0 + tot (List.replicate pg.n []) + _ ≤ _
                  rw [tot_nil]; omega) _ W7 hI7 (HI.out.1.step (step_below hb6 hB7)) hsl (fun _ b o e q => by injection e with e; injection e with e1 _ _; have := q.2; omega) (by omega)
                have HS := once_ends HPG.out.1 hNew hroom HPG.out.2.1 HPG.out.2.2.1 HPG.out.2.2.2.1 (by rw [HPG.out.2.2.2.2.1]; omega) rdf (fun t ht => HPG.out.2.2.2.2.2.1 t (by rw [HPG.out.2.2.2.2.1] at ht; exact ht)) (fun t ht => HPG.out.2.2.2.2.2.2 t (by rw [HPG.out.2.2.2.2.1] at ht; exact ht)) ((List.range sn).map F) (by simp; omega)
                obtain ⟨S, hS⟩ : ∃ S, tRun B (t0 pg) ((List.range sn).map F) = S := ⟨_, rfl⟩
                rw [hS] at cQ HS
                dsimp only at HS
                have HSS := Lib.hid HS
                have HB7 := Lib.hid (And.intro hb6 (And.intro (step_below hb6 hB7) (show w.heap.size ≤ W6.heap.size from hb6.size)))
                clear hb7 hs7 hc7 hsl hNew hroom hI6 hb6 hBok hOk0 hI7 HS hS hF hB7
                obtain ⟨g6, hg6⟩ : ∃ g6, W6.heap.size = g6 := ⟨_, rfl⟩
                rw [hg6] at cQ HB7
                try rw [hg6]
                clear hg6
                go_wp2_with fail
                with_reducible refine cQ.mono ?_
                rintro e W8 ⟨⟨u, rfl⟩, hM8⟩
                clear cQ
                obtain ⟨own8, hI8, ho8, hk8⟩ := hM8
                have hb8 : Below w.heap.size w W8 := HB7.out.2.1.trans ⟨hk8.os, hk8.tape, hk8.output, by have h1 := HB7.out.2.1.size; have h2 := hk8.size; exact h2, fun i hi => hk8.block i (Nat.lt_of_lt_of_le hi HB7.out.2.1.size) (fun ho => by have h1 := ho.1; have h2 := HBW.out.size; omega)⟩
                have cV := tevents_any B S own8 W8 hI8 (by have := HSS.out.2.2.2.2; omega)
                have HB8 := Lib.hid hb8
                clear hI8 ho8 hk8 hb8
                go_wp2_with fail
                with_reducible refine cV.mono ?_
                rintro e W9 ⟨ve, rfl, hr9, hB9⟩
                clear cV
                obtain ⟨AE, cE, rfl, _, hslE⟩ := own_sle Evt.cells (fun _ => rfl) ev0 S.evs hr9
                have cC := tcalls_any AE S.evs.length cE (evF S.evs) (by have := HSS.out.2.2.2.2; omega) W9 (evF_sle HSS.out.1 hslE)
                have HB9 := Lib.hid (step_below HB8.out hB9)
                clear hr9 hslE hB9
                go_wp2_with fail
                with_reducible refine cC.mono ?_
                rintro e Wc ⟨vC, RV, rfl, hRV, hPT, _, hBc⟩
                clear cC
                obtain ⟨hF5, β, hβ0, hFb, hFc⟩ := once_calls HSS.out.1 HSS.out.2.1 HSS.out.2.2.1 HSS.out.2.2.2.1
                have hlen : RV.length = (allC (evF S.evs) S.evs.length).length := by rw [← hRV, List.length_map]
                have hlenS : (allC (evF S.evs) S.evs.length).length ≤ S.evs.length := by
                  unfold allC
                  rw [List.length_map]
                  exact Nat.le_trans (List.length_filter_le _ _) (by rw [List.length_range]; exact Nat.le_refl _)
                obtain ⟨C, hC⟩ : ∃ C, allC (evF S.evs) S.evs.length = C := ⟨_, rfl⟩
                rw [hC] at hRV hF5 hFb hFc hlen hlenS
                obtain ⟨AC, cC2, rfl, _, _, hcells⟩ := hPT
                obtain ⟨nC, hnC⟩ : ∃ nC, RV.length = nC := ⟨_, rfl⟩
                rw [hnC] at hcells hlen
                have hC9 : nC ≤ 999999000 := by have := HSS.out.2.2.2.2; omega
                rw [hnC]
                have hcc : 0 < nC → ∃ b off, AC = some ⟨b, off, none⟩ ∧ b < Wc.heap.size ∧ ∀ i, i < nC → Wc.cell? ⟨b, off + i * 6, none⟩ = some (.int .i64 (C.getD i default).site) ∧ Wc.cell? ⟨b, off + i * 6 + 1, none⟩ = some (.int .i64 (C.getD i default).who) ∧ Wc.cell? ⟨b, off + i * 6 + 2, none⟩ = some (.int .i64 (C.getD i default).began) ∧
                    Wc.cell? ⟨b, off + i * 6 + 3, none⟩ = some (.int .i64 (C.getD i default).ended) ∧ Wc.cell? ⟨b, off + i * 6 + 4, none⟩ = some (.int .u32 (C.getD i default).result) := fun hp => by
                  obtain ⟨b, off, e, _, hbl, hx⟩ := hcells hp
                  refine ⟨b, off, e, hbl, fun i hi => ?_⟩
                  have e2 : C.getD i default = (RV.getD i cv0).1 := by
                    rw [← hRV]
                    have hi' : i < RV.length := by omega
                    simp [List.getD_eq_getElem?_getD, List.getElem?_map, List.getElem?_eq_getElem hi']
                  rw [e2]
                  exact ⟨hx i hi 0 _ rfl, hx i hi 1 _ rfl, hx i hi 2 _ rfl, hx i hi 3 _ rfl, hx i hi 4 _ rfl⟩
                have HC := Lib.hid (And.intro hcc (And.intro hlen (And.intro hF5 (And.intro hβ0 (And.intro hFb hFc)))))
                have HBc := Lib.hid (step_below HB9.out hBc)
                clear hRV hF5 hβ0 hFb hFc hlen hlenS hC hcells hnC hcc hBc
                go_wp2_with fail
                go_loopw [19, 20, 21] (fun v19 v20 v21 wr => ∃ (i : Nat) (d b : Int), i ≤ nC ∧ v21 = .int .i64 (i : Int) ∧ v19 = .int .i64 d ∧ v20 = .int .i64 b ∧ (0 ≤ d → ∃ j, j < i ∧ P5 (C.getD j default)) ∧ ((b = -1 ∧ ∀ j, j < i → (C.getD j default).site ≠ 1) ∨ b = β) ∧ Below Wc.heap.size Wc wr) (fun _ _ v21 _ => nC - (intOf v21).toNat)
                case atStart => exact ⟨0, -1, -1, Nat.zero_le _, rfl, rfl, rfl, fun q => absurd q (by decide), .inl ⟨rfl, fun j hj => absurd hj (by omega)⟩, Below.refl _ _⟩
                case round =>
                  as_aux_lemma =>
                    obtain ⟨i, d, b, hi, rfl, rfl, rfl, hd, hb, hBr⟩ := hrel
                    by_cases hil : i < nC
                    case pos =>
                      have hil' : (i : Int) < (nC : Int) := by omega
                      have hp : 0 < nC := by omega
                      obtain ⟨cb, co, rfl, hcb, hcl⟩ := HC.out.1 hp
                      obtain ⟨k0, k1, k2, k3, k4⟩ := hcl i hil
                      have c0 := (hBr.cell (p := ⟨cb, co + i * 6, none⟩) hcb).trans k0
                      have c1 := (hBr.cell (p := ⟨cb, co + i * 6 + 1, none⟩) hcb).trans k1
                      have c2 := (hBr.cell (p := ⟨cb, co + i * 6 + 2, none⟩) hcb).trans k2
                      have c3 := (hBr.cell (p := ⟨cb, co + i * 6 + 3, none⟩) hcb).trans k3
                      have c4 := (hBr.cell (p := ⟨cb, co + i * 6 + 4, none⟩) hcb).trans k4
                      have hmem : C.getD i default ∈ C := getD_mem (by have := HC.out.2.1; omega)
                      have hb1 := HC.out.2.2.2.2.1 _ hmem
                      have hc1 := HC.out.2.2.2.2.2 _ hmem
                      have h5i := fun j hj => HC.out.2.2.1 j i hj (by have := HC.out.2.1; omega)
                      obtain ⟨ci, hci⟩ : ∃ ci, C.getD i default = ci := ⟨_, rfl⟩
                      rw [hci] at c0 c1 c2 c3 c4 hb1 hc1 h5i
                      obtain ⟨si, wi, bi, ei, ri, inn⟩ := ci
                      unfold P5 at h5i
                      dsimp only at c0 c1 c2 c3 c4 hb1 hc1 h5i
                      have dd : 0 ≤ d → ∃ j, j < i + 1 ∧ P5 (C.getD j default) := fun q => by obtain ⟨j, h1, h2⟩ := hd q; exact ⟨j, by omega, h2⟩
                      have hnd : si = 0 → 0 ≤ ei → ri = 5 → d < 0 := fun q1 q2 q3 => by
                        rcases Int.lt_or_le d 0 with c | c
                        · exact c
                        · obtain ⟨j, h1, h2⟩ := hd c
                          exact (h5i j h1 h2 ⟨q1, q2, q3⟩).elim
                      have dw : si = 0 → 0 ≤ ei → ri = 5 → ∃ j, j < i + 1 ∧ P5 (C.getD j default) := fun q1 q2 q3 => ⟨i, by omega, by rw [hci]; exact ⟨q1, q2, q3⟩⟩
                      have bb : si ≠ 1 → ((b = -1 ∧ ∀ j, j < i + 1 → (C.getD j default).site ≠ 1) ∨ b = β) := fun q => hb.imp (fun z => ⟨z.1, fun j hj => by
                        rcases Nat.lt_or_ge j i with c | c
                        · exact z.2 j c
                        · obtain rfl : j = i := by omega
                          rw [hci]; exact q⟩) id
                      have HQ := Lib.hid (And.intro dd (And.intro dw (And.intro bb hb1)))
                      have HBR := Lib.hid hBr
                      clear hd hb hBr dd dw bb h5i hmem hci k0 k1 k2 k3 k4 hc1
                      by_cases s0 : si = 0
                      · have s0b : (si == 0) = true := by simp [s0]
                        have s1b : (si == 1) = false := by simp [s0]
                        have s1 : si ≠ 1 := by omega
                        by_cases e0 : 0 ≤ ei
                        · by_cases r5 : ri = 5
                          · have r5b : (ri == 5) = true := by simp [r5]
                            have hdn := hnd s0 e0 r5
                            have HS5 := Lib.hid (And.intro s0 (And.intro e0 (And.intro r5 s1)))
                            clear hnd s0 r5 s1 hb1
                            go_wp2
                            go_roundw
                            case rel => exact ⟨i + 1, wi, b, by omega, by go_num, rfl, rfl, fun _ => HQ.out.2.1 HS5.out.1 HS5.out.2.1 HS5.out.2.2.1, HQ.out.2.2.1 HS5.out.2.2.2, HBR.out⟩
                            case measure => simp [intOf]; omega
                          · have r5b : (ri == 5) = false := by simp [r5]
                            have HS5 := Lib.hid s1
                            clear hnd s0 r5 s1 hb1
                            go_wp2
                            go_roundw
                            case rel => exact ⟨i + 1, d, b, by omega, by go_num, rfl, rfl, HQ.out.1, HQ.out.2.2.1 HS5.out, HBR.out⟩
                            case measure => simp [intOf]; omega
                        · have HS5 := Lib.hid s1
                          clear hnd s0 s1 hb1
                          go_wp2
                          go_roundw
                          case rel => exact ⟨i + 1, d, b, by omega, by go_num, rfl, rfl, HQ.out.1, HQ.out.2.2.1 HS5.out, HBR.out⟩
                          case measure => simp [intOf]; omega
                      · have s0b : (si == 0) = false := by simp [s0]
                        by_cases s1 : si = 1
                        · have s1b : (si == 1) = true := by simp [s1]
                          obtain ⟨q1, q2⟩ := hb1 s1
                          by_cases e0 : 0 ≤ ei
                          · have r0b : (ri != 0) = false := by simp [q2 e0]
                            have HS5 := Lib.hid (q1 : bi = β)
                            clear hnd s0 s1 q1 q2 hb1
                            go_wp2
                            go_roundw
                            case rel => exact ⟨i + 1, d, bi, by omega, by go_num, rfl, rfl, HQ.out.1, .inr HS5.out, HBR.out⟩
                            case measure => simp [intOf]; omega
                          · have HS5 := Lib.hid (q1 : bi = β)
                            clear hnd s0 s1 q1 q2 hb1
                            go_wp2
                            go_roundw
                            case rel => exact ⟨i + 1, d, bi, by omega, by go_num, rfl, rfl, HQ.out.1, .inr HS5.out, HBR.out⟩
                            case measure => simp [intOf]; omega
                        · have s1b : (si == 1) = false := by simp [s1]
                          have HS5 := Lib.hid s1
                          clear hnd s0 s1 hb1
                          go_wp2
                          go_roundw
                          case rel => exact ⟨i + 1, d, b, by omega, by go_num, rfl, rfl, HQ.out.1, HQ.out.2.2.1 HS5.out, HBR.out⟩
                          case measure => simp [intOf]; omega
                    case neg =>
                      obtain rfl : nC = i := by omega
                      have hil' : ¬ (nC : Int) < (nC : Int) := by omega
                      obtain ⟨Wf, rfl⟩ : ∃ Wf : World, Wf = wr := ⟨_, rfl⟩
                      have hbe : ∀ c ∈ C, c.site = 1 → b = β := fun c hc hs => by
                        rcases hb with ⟨_, z⟩ | z
                        · obtain ⟨j, hj, e⟩ := List.getElem_of_mem hc
                          have := z j (by have := HC.out.2.1; omega)
                          rw [List.getD_eq_getElem?_getD, List.getElem?_eq_getElem hj] at this
                          exact absurd (by rw [← e] at hs; exact hs) this
                        · exact z
                      have HQ := Lib.hid hbe
                      have HBF := Lib.hid hBr
                      clear hd hb hbe hBr
                      go_wp2_with fail
                      go_loopw [22] (fun v22 wr => ∃ i : Nat, i ≤ nC ∧ v22 = .int .i64 (i : Int) ∧ Below Wc.heap.size Wc wr) (fun v22 _ => nC - (intOf v22).toNat)
                      case atStart => exact ⟨0, Nat.zero_le _, rfl, HBF.out⟩
                      case round =>
                        obtain ⟨i, hi, rfl, hBr⟩ := hrel
                        by_cases hil : i < nC
                        case pos =>
                          have hil' : (i : Int) < (nC : Int) := by omega
                          have hp : 0 < nC := by omega
                          obtain ⟨cb, co, rfl, hcb, hcl⟩ := HC.out.1 hp
                          obtain ⟨k0, k1, k2, k3, k4⟩ := hcl i hil
                          have c0 := (hBr.cell (p := ⟨cb, co + i * 6, none⟩) hcb).trans k0
                          have c1 := (hBr.cell (p := ⟨cb, co + i * 6 + 1, none⟩) hcb).trans k1
                          have c2 := (hBr.cell (p := ⟨cb, co + i * 6 + 2, none⟩) hcb).trans k2
                          have c3 := (hBr.cell (p := ⟨cb, co + i * 6 + 3, none⟩) hcb).trans k3
                          have c4 := (hBr.cell (p := ⟨cb, co + i * 6 + 4, none⟩) hcb).trans k4
                          have hmem : C.getD i default ∈ C := getD_mem (by have := HC.out.2.1; omega)
                          have hb1 := HC.out.2.2.2.2.1 _ hmem
                          have hc1 := HC.out.2.2.2.2.2 _ hmem
                          have h5i := fun j hj => HC.out.2.2.1 j i hj (by have := HC.out.2.1; omega)
                          obtain ⟨ci, hci⟩ : ∃ ci, C.getD i default = ci := ⟨_, rfl⟩
                          rw [hci] at c0 c1 c2 c3 c4 hb1 hc1 h5i
                          obtain ⟨si, wi, bi, ei, ri, inn⟩ := ci
                          unfold P5 at h5i
                          dsimp only at c0 c1 c2 c3 c4 hb1 hc1 h5i
                          have HBR := Lib.hid hBr
                          clear hBr h5i hmem hci k0 k1 k2 k3 k4 hb1
                          by_cases s0 : si = 0
                          · have s0b : (si != 0) = false := by simp [s0]
                            by_cases e0 : 0 ≤ ei
                            · have e1 : ¬ ei < 0 := by omega
                              by_cases r5 : ri = 5
                              · have r5b : (ri == 5) = true := by simp [r5]
                                clear s0 r5 hc1
                                go_wp2
                                go_roundw
                                case rel => exact ⟨i + 1, by omega, by go_num, HBR.out⟩
                                case measure => simp [intOf]; omega
                              · have r5b : (ri == 5) = false := by simp [r5]
                                obtain ⟨q1, q2, c', q3, q4⟩ := hc1 s0 e0 r5
                                have hbb := HQ.out c' q3 q4
                                have r0b : (ri != 0) = false := by simp [q1]
                                have hb0 : ¬ b < 0 := by have := HC.out.2.2.2.1; omega
                                have hbe : ¬ ei < b := by omega
                                clear s0 r5 hc1 q1 q2 q3 q4 hbb
                                go_wp2
                                go_roundw
                                case rel => exact ⟨i + 1, by omega, by go_num, HBR.out⟩
                                case measure => simp [intOf]; omega
                            · have e1 : ei < 0 := by omega
                              clear s0 hc1
                              go_wp2
                              go_roundw
                              case rel => exact ⟨i + 1, by omega, by go_num, HBR.out⟩
                              case measure => simp [intOf]; omega
                          · have s0b : (si != 0) = true := by simp [s0]
                            clear s0 hc1
                            go_wp2
                            go_roundw
                            case rel => exact ⟨i + 1, by omega, by go_num, HBR.out⟩
                            case measure => simp [intOf]; omega
                        case neg =>
                          obtain rfl : nC = i := by omega
                          have hil' : ¬ (nC : Int) < (nC : Int) := by omega
                          have HBR := Lib.hid hBr
                          clear hBr
                          go_wp2
                          go_ret
                          exact ⟨rfl, by have K := step_below HBc.out HBR.out; first | exact K | (rw [hxb] at K; exact K)⟩
          case pos =>
            have hlt' : (k : Int) < (th : Int) := by omega
            have hth4 : th ≤ 4 ∧ th ≤ n := by have := HTH.out; omega
            obtain ⟨ab, ao, rfl, hab, hac⟩ := HI.out.2.2.1 (by omega)
            have HAB := Lib.hid (And.intro hab hac)
            clear hab hac
            have o0 := ((HF.out.2.1.grown hgk (fun e => HF.out.2.2.2.1.2 (Option.some.inj e))).cell 0).trans rfl
            have o1 := ((HF.out.2.1.grown hgk (fun e => HF.out.2.2.2.1.2 (Option.some.inj e))).cell 1).trans rfl
            have o2 := ((HF.out.2.1.grown hgk (fun e => HF.out.2.2.2.1.2 (Option.some.inj e))).cell 2).trans rfl
            have o3 := ((HF.out.2.1.grown hgk (fun e => HF.out.2.2.2.1.2 (Option.some.inj e))).cell 3).trans rfl
            have hBw : Below xb w wo := HF.out.2.2.1.trans (below_of_grown (by have := HF.out.2.2.1.size; omega) hgk (fun g e => by rw [← Option.some.inj e]; exact HF.out.2.2.2.2.2.2.2))
            have hBw' : Below w.heap.size w wo := HX0.out ▸ hBw
            have cE := code_enter (th : Int) 16 (k : Int) 0 (by omega) (by omega) (by decide) (by decide) wo (HI.out.1.step hBw') (HI.out.2.1.step hBw')
            have HR := Lib.hid (And.intro hPk (And.intro hCk (And.intro hgk hBw)))
            clear hPk hCk hgk hBw hBw'
            go_wp2_with fail
            with_reducible refine cE.mono ?_
            rintro e We ⟨⟨ve, rfl, hOe⟩, hBe⟩
            obtain ⟨CE, hCE⟩ : ∃ CE, (BB.genter BB.e 16 (k : Int)).out = CE := ⟨_, rfl⟩
            rw [hCE] at hOe
            have HCE := Lib.hid (And.intro hCE (And.intro (show CE.length = 23 by rw [← hCE, onceE_out]; rfl) (show ∀ x ∈ CE, x.Ok by rw [← hCE, onceE_out]; exact onceE_ok k (by omega))))
            clear hCE
            have iE := CodeIn.of hOe (m := 23) HCE.out.2.1
            obtain ⟨⟨eg, ecap, hve, _⟩, _⟩ := id iE
            subst hve
            have hBwe : Below w.heap.size w We := HX0.out ▸ (HR.out.2.2.2.trans (hBe.mono (by have := HR.out.2.2.2.size; have := HX0.out; omega)))
            have cD := code_done (th : Int) 16 (k : Int) 0 (by omega) (by omega) (by decide) (by decide) We (HI.out.1.step hBwe) (HI.out.2.1.step hBwe)
            have p0 := (((HF.out.2.1.grown HR.out.2.2.1 (fun e => HF.out.2.2.2.1.2 (Option.some.inj e))).below hBe (HF.out.2.1.grown HR.out.2.2.1 (fun e => HF.out.2.2.2.1.2 (Option.some.inj e))).lt).cell 0).trans rfl
            have p1 := (((HF.out.2.1.grown HR.out.2.2.1 (fun e => HF.out.2.2.2.1.2 (Option.some.inj e))).below hBe (HF.out.2.1.grown HR.out.2.2.1 (fun e => HF.out.2.2.2.1.2 (Option.some.inj e))).lt).cell 1).trans rfl
            have p2 := (((HF.out.2.1.grown HR.out.2.2.1 (fun e => HF.out.2.2.2.1.2 (Option.some.inj e))).below hBe (HF.out.2.1.grown HR.out.2.2.1 (fun e => HF.out.2.2.2.1.2 (Option.some.inj e))).lt).cell 2).trans rfl
            have p3 := (((HF.out.2.1.grown HR.out.2.2.1 (fun e => HF.out.2.2.2.1.2 (Option.some.inj e))).below hBe (HF.out.2.1.grown HR.out.2.2.1 (fun e => HF.out.2.2.2.1.2 (Option.some.inj e))).lt).cell 3).trans rfl
            have HEn := Lib.hid (And.intro iE hBe)
            clear cE o0 o1 o2 o3 hOe hBe iE hBwe
            go_wp2_with fail
            with_reducible refine cD.mono ?_
            rintro e Wd ⟨⟨vd, rfl, hOd⟩, hBd⟩
            obtain ⟨CD, hCD⟩ : ∃ CD, (BB.gdone BB.e 16 (k : Int)).out = CD := ⟨_, rfl⟩
            rw [hCD] at hOd
            have HCD := Lib.hid (And.intro hCD (And.intro (show CD.length = 13 by rw [← hCD, onceD_out]; rfl) (show ∀ x ∈ CD, x.Ok by rw [← hCD, onceD_out]; exact onceD_ok k (by omega))))
            clear hCD
            have iD := CodeIn.of hOd (m := 13) HCD.out.2.1
            obtain ⟨⟨dg, dcap, hvd, _⟩, _⟩ := id iD
            subst hvd
            have hxd : Below xb w Wd := (HR.out.2.2.2.trans (HEn.out.2.mono (by have := HR.out.2.2.2.size; have := HX0.out; omega))).trans (hBd.mono (by have := HR.out.2.2.2.size; have := HEn.out.2.size; have := HX0.out; omega))
            have hwd : Below wo.heap.size wo Wd := HEn.out.2.trans (hBd.mono HEn.out.2.size)
            have hXd := (HF.out.1.grown HR.out.2.2.1 (fun e => HF.out.2.2.2.1.1 (Option.some.inj e))).below hwd (HF.out.1.grown HR.out.2.2.1 (fun e => HF.out.2.2.2.1.1 (Option.some.inj e))).lt
            have HDn := Lib.hid (And.intro (HEn.out.1.step hBd) (And.intro iD (And.intro hxd (And.intro hwd hXd))))
            clear cD p0 p1 p2 p3 hOd hBd iD hxd hwd hXd
            go_wp2_with fail
            obtain ⟨rdk, hrdk⟩ : ∃ rdk : Nat, (1 + (Z k % 3).toNat) = rdk := ⟨_, rfl⟩
            have hzk := HZ.out.1 k (by omega)
            have hrk : 1 + Z k % 3 = (rdk : Int) := by omega
            have HRD := Lib.hid (And.intro hrdk (show rdk ≤ 3 by omega))
            clear hrdk
            go_goals
            go_loopw [14, 15] (fun v14 v15 wq => ∃ (j N c : Nat) (AA : Option Addr), j ≤ rdk ∧ v15 = .int .i64 (j : Int) ∧ N = j * 41 ∧ v14 = .slice AA N c ∧ CW Wd wq AA N c ((codeOf (fun q => onceL k (q * 41)) j).map Op.ins)) (fun v14 v15 _ => rdk - (intOf v15).toNat)
            case atStart => exact ⟨0, 0, 0, none, Nat.zero_le _, rfl, rfl, rfl, CW.start Wd⟩
            case round =>
              obtain ⟨j, N, c, AA, hj, rfl, hN, rfl, hC⟩ := hrel
              by_cases hjl : j < rdk
              case neg =>
                obtain rfl : rdk = j := by omega
                have hjl' : ¬ (rdk : Int) < (rdk : Int) := by omega
                have hkn : (k : Int) < (n : Int) := by omega
                have hHx := (HDn.out.2.2.2.2).below hC.below HDn.out.2.2.2.2.lt
                have x0 := (hHx.cell 0).trans rfl
                have hbq : Below w.heap.size w wr := HX0.out ▸ (HDn.out.2.2.1.trans (hC.below.mono (by have := HDn.out.2.2.1.size; have := HX0.out; omega)))
                have za : wr.cell? ⟨ab, ao + k, none⟩ = some (.int .u8 (Z k)) := (hbq.cell (p := ⟨ab, ao + k, none⟩) HAB.out.1).trans (HAB.out.2 k (by omega))
                have hbo : Below wo.heap.size wo wr := HDn.out.2.2.2.1.trans (hC.below.mono HDn.out.2.2.2.1.size)
                have hP5 := HR.out.1.below hbo HR.out.1.lt
                have hcd := HR.out.2.1.below hbo
                obtain ⟨vA, vc, hve⟩ := hcd.cap
                rw [List.length_map, List.length_range] at hve
                subst hve
                have q0 := (hP5.cell 0).trans rfl
                have hb0 : W5.heap.size ≤ Wd.heap.size := by have h1 := HR.out.2.2.1.size; have h2 := HDn.out.2.2.2.1.size; omega
                have HQ := Lib.hid (And.intro hP5 (grown_below HR.out.2.2.1 hbo))
                have HN := Lib.hid hN
                clear hHx hbq hbo hP5 hN
                go_wp2_with (at_builtin; refine CdRow.app hcd (by simp) hC hb0 rfl (.tmp 121) (.tmp 123) rfl rfl rfl (by omega) ?_; intro A' c' w' hcd' hkeep hgr; have hP6 := hkeep pb _ _ HQ.out.1 (by decide); have hg6 := hgr _ _ rfl HQ.out.2; have p0 := (hP6.cell 0).trans rfl; have pf := hP6.frozen 0; have HQ6 := Lib.hid (And.intro hcd' (And.intro hP6 hg6)); clear hcd hC hcd' hkeep hgr hP6 hg6)
                go_roundw
                case rel =>
                  obtain ⟨hcd6, hP6, hg6⟩ := HQ6.out
                  have hset : w'.grownBy (w'.setCell ⟨pb, 0, none⟩ (.slice A' (k + 1) c')) (some pb) := set_only _
                  refine ⟨k + 1, _, by omega, by go_num, rfl, hP6.set_ 0 _, ?_, grown_row hg6 hset (fun g e => .inr e)⟩
                  have e : (List.range (k + 1)).map (fun t => (codeOf (fun q => onceL t (q * 41)) (1 + (Z t % 3).toNat)).map Op.ins) = (List.range k).map (fun t => (codeOf (fun q => onceL t (q * 41)) (1 + (Z t % 3).toNat)).map Op.ins) ++ [(codeOf (fun q => onceL k (q * 41)) rdk).map Op.ins] := by
                    rw [List.range_succ, List.map_append]
                    show _ ++ [(codeOf (fun q => onceL k (q * 41)) (1 + (Z k % 3).toNat)).map Op.ins] = _
                    rw [HRD.out.1]
                  rw [e]
                  exact hcd6.far hP6 (by decide) (by decide) hset
                case measure => simp [intOf]; omega

              case pos =>
                have hjl' : (j : Int) < (rdk : Int) := by omega
                have hkn : (k : Int) < (n : Int) := by omega
                have hN3 : N ≤ 123 := by have := HRD.out.2; omega
                have hHx := (HDn.out.2.2.2.2).below hC.below HDn.out.2.2.2.2.lt
                have x0 := (hHx.cell 0).trans rfl
                have hbq : Below w.heap.size w wr := HX0.out ▸ (HDn.out.2.2.1.trans (hC.below.mono (by have := HDn.out.2.2.1.size; have := HX0.out; omega)))
                have za : wr.cell? ⟨ab, ao + k, none⟩ = some (.int .u8 (Z k)) := (hbq.cell (p := ⟨ab, ao + k, none⟩) HAB.out.1).trans (HAB.out.2 k (by omega))
                have HN := Lib.hid hN
                clear hHx hbq hN
                go_wp2_with (at_builtin; refine hC.app1 ⟨27, 7, 0, 0, 0⟩ (N + 1) rfl rfl (.tmp 81) (.tmp 83) rfl rfl rfl (by omega) ?_; clear hC x0 za; intro A1 c1 W1 hC)
                have cM := (HDn.out.1.step hC.below).moved HCE.out.2.2 (by decide) ((N : Int) + 1) (by omega) (by omega) (HI.out.1.step (HX0.out ▸ (HDn.out.2.2.1.trans (hC.below.mono (by have := HDn.out.2.2.1.size; have := HX0.out; omega)))))
                go_wp2_with fail
                with_reducible refine cM.mono ?_
                rintro e W2 ⟨cs2, rfl, hb2, hin2, hB2⟩
                have hC2 := hC.step hB2
                clear cM hC hB2
                obtain ⟨g2, hg2⟩ : ∃ g2, W1.heap.size = g2 := ⟨_, rfl⟩
                rw [hg2] at hb2
                try rw [hg2]
                clear hg2
                go_wp2_with (first | (at_builtin; refine hC2.appM hb2 hin2 (CE.map (movedI ((N : Int) + 1))) (map_range HCE.out.2.1 _) (N + 24) rfl rfl (.tmp 85) (.tmp 89) rfl rfl rfl (by omega) ?_; clear hC2 hb2 hin2; intro A3 c3 W3 hC) | (at_builtin; refine hC.app1 ⟨27, 7, 0, 0, 1⟩ (N + 25) rfl rfl (.tmp 91) (.tmp 93) rfl rfl rfl (by omega) ?_; clear hC; intro A4 c4 W4 hC) | (at_builtin; refine hC.app1 ⟨14, 7, 0, 0, (N : Int) + 25 + 13 + 3⟩ (N + 26) rfl rfl (.tmp 95) (.tmp 104) rfl rfl rfl (by omega) ?_; clear hC; intro A5 c5 W5' hC) | (at_builtin; refine hC.app1 ⟨27, 7, 0, 0, 2⟩ (N + 27) rfl rfl (.tmp 106) (.tmp 108) rfl rfl rfl (by omega) ?_; clear hC; intro A6 c6 W6 hC))
                have cM2 := (HDn.out.2.1.step hC.below).moved HCD.out.2.2 (by decide) ((N : Int) + 27) (by omega) (by omega) (HI.out.1.step (HX0.out ▸ (HDn.out.2.2.1.trans (hC.below.mono (by have := HDn.out.2.2.1.size; have := HX0.out; omega)))))
                with_reducible refine cM2.mono ?_
                rintro e W7 ⟨cs7, rfl, hb7, hin7, hB7⟩
                have hC7 := hC.step hB7
                clear cM2 hC hB7
                obtain ⟨g7, hg7⟩ : ∃ g7, W6.heap.size = g7 := ⟨_, rfl⟩
                rw [hg7] at hb7
                try rw [hg7]
                clear hg7
                go_wp2_with (first | (at_builtin; refine hC7.appM hb7 hin7 (CD.map (movedI ((N : Int) + 27))) (map_range HCD.out.2.1 _) (N + 40) rfl rfl (.tmp 110) (.tmp 114) rfl rfl rfl (by omega) ?_; clear hC7 hb7 hin7; intro A8 c8 W8 hC) | (at_builtin; refine hC.app1 ⟨27, 7, 0, 0, 3⟩ (N + 41) rfl rfl (.tmp 116) (.tmp 118) rfl rfl rfl (by omega) ?_; clear hC; intro A9 c9 W9 hC))
                go_roundw
                case rel =>
                  refine ⟨j + 1, N + 41, c9, A9, by omega, by go_num, by have := HN.out; omega, rfl, ?_⟩
                  have e : (codeOf (fun q => onceL k (q * 41)) (j + 1)).map Op.ins = (codeOf (fun q => onceL k (q * 41)) j).map Op.ins ++ [(⟨27, 7, 0, 0, 0⟩ : Ins)] ++ CE.map (movedI ((N : Int) + 1)) ++ [⟨27, 7, 0, 0, 1⟩] ++ [⟨14, 7, 0, 0, (N : Int) + 25 + 13 + 3⟩] ++ [⟨27, 7, 0, 0, 2⟩] ++ CD.map (movedI ((N : Int) + 27)) ++ [⟨27, 7, 0, 0, 3⟩] := by
                    rw [codeOf_succ, List.map_append, ← HN.out, once_round k N (by omega), HCE.out.1, HCD.out.1, show (N : Int) + 25 + 13 + 3 = (N : Int) + 41 by omega]
                    simp only [List.append_assoc]
                  rw [e]
                  exact hC
                case measure => simp [intOf]; omega

end Go.Proofs.YtmhfpjnkjlhbpaaGreatDoor
