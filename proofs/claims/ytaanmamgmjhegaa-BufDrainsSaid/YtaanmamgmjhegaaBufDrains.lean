/- BufDrains returns true for every row of entries and every memory, and leaves old memory as it was. -/
import Derived.Test.YtaanmamgmjhegaaBufRefD
namespace Go.Proofs.Ytaanmamgmjhegaa
open Go.ChangeShapes Go.WideShapes Go.ChangeAt Go.RowKit Go.Deep
set_option linter.unusedVariables false
set_option linter.unusedSimpArgs false

set_option maxRecDepth 100000 in
theorem bufDrains_long (A : Option Addr) (len cap : Nat) (A' : Option Addr) (m cap' : Nat) (h1 : len ≤ maxLen) (hl : 16 < len ∨ 300 < m) (hm : m ≤ maxLen) (w : World) :
    Calls Try.prog 5 #[.slice A len cap, .slice A' m cap'] w fun e w' => e = .returned (.bool true) ∧ Below w.heap.size w w' := by
  unfold maxLen at hm h1
  by_cases h16 : 16 < len
  all_goals
    have hx : 16 < len ∨ 300 < m := hl
    have hl' : (16 : Int) < (len : Int) ∨ (300 : Int) < (m : Int) := by omega
    clear hx hl
    rcases hl' with hl' | hl'
    all_goals
      go_enter Try.func5, Try.ntmps5
      go_wp2_with fail
      refine (awake05_any _).mono ?_
      rintro e' w1 ⟨rfl, hb1⟩
      go_wp2_with fail
      refine (awake05_any _).mono ?_
      rintro e' w2 ⟨rfl, hb2⟩
      go_wp2
      go_ret
      exact ⟨rfl, step_below hb1 hb2⟩

set_option maxRecDepth 100000 in
set_option maxHeartbeats 8000000 in
theorem bufDrains_true (A : Option Addr) (len cap : Nat) (E : Nat → Ent) (hl : len ≤ 16) (A' : Option Addr) (m cap' : Nat) (Z : Nat → Int) (hm : m ≤ 300) (w : World) (hs : SlE w A len 2 (fun i => entV (E i))) (hz : Sl w A' m (fun i => .int .u32 (Z i))) :
    Calls Try.prog 5 #[.slice A len cap, .slice A' m cap'] w fun e w' => e = .returned (.bool true) ∧ Below w.heap.size w w' := by
  have hE := empty_buf 0 (by decide) (by decide)
  have hn16 := empty_buf 16 (by decide) (by decide)
  have cN := new_any 16
  rw [if_pos (by decide), if_pos (by decide)] at cN
  generalize emptyCells 16 = cs0 at hn16 cN
  have HS := Lib.hid hs
  have HZ := Lib.hid hz
  clear hs hz
  go_enter Try.func5, Try.ntmps5
  go_wp2_with fail
  refine (awake05_any _).mono ?_
  rintro e' w1 ⟨rfl, hb1⟩
  go_wp2_with fail
  refine (cN _).mono ?_
  rintro e' w2 ⟨rfl, hb2⟩
  have hB2 := step_below hb1 hb2
  clear hb1 hb2 cN
  go_wp2_with (refine wpList_store_row rfl 29 (.tmp 5) (.tmp 28) rfl _ rfl cs0 rfl 29 (emptyCells 0) (Blk.new _ _ _) (hE.sizeE hn16) hn16.info hn16.all ?_; intro w3 hb3 hg3; have hB3 := below_row (hB2.alloc hB2.size _) hg3 (by have := hB2.size; simp; omega) hB2.size)
  have hgB := hB2.size
  generalize w2.heap.size = gb at hb3 hgB ⊢
  clear hB2 hg3
  go_loopw [7] (fun v wr => ∃ (k : Nat) (cs : Array Value), k ≤ len ∧ v = .int .i64 k ∧ Buf cs (entL E k) 16 ∧ Blk wr gb 29 cs ∧ Below w.heap.size w wr) (fun v _ => len - (intOf v).toNat)
  case atStart => exact ⟨0, cs0, Nat.zero_le _, rfl, hn16, hb3, hB3⟩
  case round =>
    clear hb3 hB3
    obtain ⟨k, cs, hk, rfl, hbuf, hbr, hBr⟩ := hrel
    by_cases hkl : k < len
    · obtain ⟨b, off, rfl, hbB, hcc⟩ := HS.out (by omega)
      have c0 : wr.cell? ⟨b, off + k * 2, none⟩ = some (.int .i64 (E k).1) := keepAt hBr hbB (hcc k hkl 0 _ rfl)
      have c1 : wr.cell? ⟨b, off + k * 2 + 1, none⟩ = some (.int .u32 (E k).2) := keepAt hBr hbB (hcc k hkl 1 _ rfl)
      have hbW : b < wr.heap.size := Nat.lt_of_lt_of_le hbB hBr.size
      have cP := put_yes cs _ 16 hbuf (E k) (by rw [entL_length]; omega) (by rw [entL_length]; omega)
      rw [← entL_succ] at cP
      have hk0 : (0 : Int) ≤ (k : Int) := by omega
      have hk1 : (k : Int) < (len : Int) := by omega
      clear hcc
      go_upto_region 7 with fail
      have hH0 : Blk wr.drew gb 29 cs ∧ wr.drew.cell? ⟨b, off + k * 2, none⟩ = some (.int .i64 (E k).1) ∧ wr.drew.cell? ⟨b, off + k * 2 + 1, none⟩ = some (.int .u32 (E k).2) := ⟨hbr, c0, c1⟩
      refine startG (fun W' => Blk W' gb 29 cs ∧ W'.cell? ⟨b, off + k * 2, none⟩ = some (.int .i64 (E k).1) ∧ W'.cell? ⟨b, off + k * 2 + 1, none⟩ = some (.int .u32 (E k).2)) 9 (by kernel_rfl) ?_
      have hBd := hBr.drew
      have hgl : gb < wr.drew.heap.size := hbr.lt
      have hbl : b < wr.drew.heap.size := hbW
      clear c0 c1 hbr hBr
      generalize wr.drew = W1 at hH0 hBd hgl hbl
      refine takeG (i := 0) (v := .agg cs) rfl (by kernel_rfl) (by kernel_rfl) (by kernel_rfl) (by kernel_rfl) (fun _ _ _ h => h) (yields_row (by rfl) 29 (.tmp 5) rfl gb rfl cs (fun _ hS => run_buf hbuf hS.1)) hH0 ?_
      try simp only [Act.put, List.setIfInBounds_toArray, List.set_cons_zero, List.set_cons_succ]
      refine takeG (i := 1) (v := .slice (some ⟨b, off, none⟩) len cap) rfl (by kernel_rfl) (by kernel_rfl) (by kernel_rfl) (by kernel_rfl) (fun _ _ _ h => h) (Or.inl ⟨by rfl, fun W hW => by go_simp⟩) hH0 ?_
      try simp only [Act.put, List.setIfInBounds_toArray, List.set_cons_zero, List.set_cons_succ]
      refine takeG (i := 2) (v := .int .i64 (k : Int)) rfl (by kernel_rfl) (by kernel_rfl) (by kernel_rfl) (by kernel_rfl) (fun _ _ _ h => h) (Or.inl ⟨by rfl, fun W hW => by go_simp⟩) hH0 ?_
      try simp only [Act.put, List.setIfInBounds_toArray, List.set_cons_zero, List.set_cons_succ]
      refine takeG (i := 3) (v := .pointer (some ⟨b, off + k * 2, none⟩)) rfl (by kernel_rfl) (by kernel_rfl) (by kernel_rfl) (by kernel_rfl) (fun _ _ _ h => h) (Or.inl ⟨by rfl, fun W hW => by go_simp⟩) hH0 ?_
      try simp only [Act.put, List.setIfInBounds_toArray, List.set_cons_zero, List.set_cons_succ]
      refine takeG (i := 4) (v := .agg #[.int .i64 (E k).1, .int .u32 (E k).2]) rfl (by kernel_rfl) (by kernel_rfl) (by kernel_rfl) (by kernel_rfl) (fun _ _ _ h => h) (Or.inl ⟨by rfl, fun W hW => by obtain ⟨_, q0, q1⟩ := hW; go_simp⟩) hH0 ?_
      try simp only [Act.put, List.setIfInBounds_toArray, List.set_cons_zero, List.set_cons_succ]
      refine onlyG (i := 5) (by kernel_rfl) rfl (fun K hK => ?_)
      go_simp
      refine (cP _).mono ?_
      rintro e W2 ⟨cs2, h2, rfl, hb2⟩
      go_wp2_with fail
      have hH2 := keepS hb2 hgl hbl hH0
      have hB2 := step_below hBd hb2
      refine hK.out _ _ hH2 (fun _ => ?_)
      clear hK K
      try simp only [Act.put, List.setIfInBounds_toArray, List.set_cons_zero, List.set_cons_succ]
      refine takeG (i := 6) (v := .tuple #[.agg cs2, .bool true]) rfl (by kernel_rfl) (by kernel_rfl) (by kernel_rfl) (by kernel_rfl) (fun _ _ _ h => h) (Or.inl ⟨by rfl, fun W hW => by go_simp⟩) hH2 ?_
      try simp only [Act.put, List.setIfInBounds_toArray, List.set_cons_zero, List.set_cons_succ]
      refine takeG (i := 7) (v := .agg cs2) rfl (by kernel_rfl) (by kernel_rfl) (by kernel_rfl) (by kernel_rfl) (fun _ _ _ h => h) (Or.inl ⟨by rfl, fun W hW => by go_simp⟩) hH2 ?_
      try simp only [Act.put, List.setIfInBounds_toArray, List.set_cons_zero, List.set_cons_succ]
      refine takeG0 (i := 8) (v := .bool true) rfl (by kernel_rfl) (by kernel_rfl) (by kernel_rfl) (by kernel_rfl) (fun _ _ _ h => h) (Or.inl ⟨by rfl, fun W hW => by go_simp⟩) hH2 ?_
      try simp only [Act.put, List.setIfInBounds_toArray, List.set_cons_zero, List.set_cons_succ]
      refine lastG (by kernel_rfl) rfl (by kernel_rfl) (fun K hK => ?_)
      refine step_store_row rfl 29 (.tmp 5) (.tmp 43) rfl _ rfl cs2 rfl 29 cs hH2.1 (hbuf.sizeE h2) h2.info h2.all ?_
      intro W5 hb5 hg5
      have hB5 := below_row hB2 hg5 hB2.size hgB
      refine hK.out _ _ ?_
      clear hK K
      go_wp2_with fail
      go_roundw
      case rel => exact ⟨k + 1, cs2, by omega, by go_num, h2, hb5, hB5⟩
      case measure => simp [intOf]; omega
    · obtain rfl : len = k := by omega
      have hkl' : ¬ (len : Int) < (len : Int) := by omega
      obtain ⟨i0, hi, hz0, hz1, hz2⟩ := info_parts word_info
      have hlenE := entL_length E len
      have hgl := hbr.lt
      go_upto_region 8 with fail
      have hown0 := own_empty wr 24 1
      have hAl := (Below.refl wr.heap.size wr).alloc (Nat.le_refl _) (Obj.cells #[] 24)
      have hsl := (HZ.out.step hBr).step hAl
      have HL := Lib.hid hlenE
      clear hlenE
      go_wp2_with (first
        | (at_builtin; refine wpList_append_sl _ rfl (.tmp 45) (.tmp 46) 49 rfl wr.heap.size 24 i0 _ 1 4 Try.underlying49 hi hz0 hz1 hz2 rfl (by omega) _ 0 _ rfl hown0 A' m cap' (fun i => .int .u32 (Z i)) rfl (by rw [Nat.mul_one]; exact hsl) (fun _ _ => rfl) (by unfold maxLen; omega) (by omega) hAl.size ?_; intro v1 w4 hown1 hg1 _; have hA4 := below_own hAl hown0 hg1 (Nat.le_refl _) (Nat.le_refl _); have hbr4 := hbr.below hA4 hgl; clear hown0 hsl hAl hg1 hbr)
        | (refine wpList_load_row rfl 29 (.tmp 5) rfl _ rfl 29 cs (0, 0) _ hbr4 Try.underlying29 rfl hbuf.info ?_))
      rw [Nat.zero_add, List.nil_append, Nat.mul_one] at hown1
      obtain ⟨B, c, rfl, hc, hw4⟩ := words_own hown1
      have hB4 := step_below hBr hA4
      clear hown1 hA4 hBr
      refine (drain_any cs _ 16 hbuf B m c Z (by omega) _ hw4.sl).mono ?_
      rintro e' w5 ⟨g5, cs5, D5, hg5, rfl, h5, hD5, hDs, hDD, hb5⟩
      have hB5 := step_below hB4 hb5
      have hbr5 := hbr4.below hb5 hbr4.lt
      have hw5 := hw4.below hb5
      have hwD5 := words_blk hD5 hDs hDD (show gb + 1 ≤ g5 by have := hbr4.lt; omega)
      clear hB4 hb5 hbr4 hw4 hD5 hDs hDD
      go_wp2_with (refine wpList_store_row rfl 29 (.tmp 10) (.tmp 53) rfl _ rfl cs5 rfl 29 (emptyCells 0) (Blk.new _ _ _) (hE.sizeE h5) h5.info h5.all ?_; intro w6 hb6 hg6; have hA6 := below_row ((Below.refl w5.heap.size w5).alloc (Nat.le_refl _) _) hg6 (by simp) (Nat.le_refl _); clear hg6)
      have hB6 := step_below hB5 hA6
      have hbr6 := hbr5.below hA6 hbr5.lt
      have hw6 := hw5.below hA6
      have hwD6 := hwD5.below hA6
      clear hB5 hbr5 hw5 hwD5 hA6
      generalize w5.heap.size = gr at hb6 ⊢
      refine (refDrain_any A len cap E (by omega) A' m cap' Z (by omega) _ (HS.out.step hB6) (HZ.out.step hB6)).mono ?_
      rintro e' w7 ⟨B7, c7, rfl, hc7, hw7, hb7⟩
      have hB7 := step_below hB6 hb7
      have hbr7 := hbr6.below hb7 hbr6.lt
      have hbx7 := hb6.below hb7 hb6.lt
      have hwO7 := hw6.below hb7
      have hwD7 := hwD6.below hb7
      clear hB6 hbr6 hb6 hw6 hwD6 hb7
      have cL1 := len_any cs5 _ 16 h5
      have cL2 := len_any cs _ 16 hbuf
      rw [HL.out] at cL2
      have hml : (0 : Int) ≤ (m : Int) := by omega
      go_wp2_with (first
        | (go_at_call 15; (first | with_reducible refine (cL1 _).mono ?_ | with_reducible refine (cL2 _).mono ?_); rintro e' wn ⟨rfl, hbn⟩; replace hB7 := step_below hB7 hbn; replace hbr7 := hbr7.below hbn hbr7.lt; replace hbx7 := hbx7.below hbn hbx7.lt; replace hw7 := hw7.below hbn; replace hwO7 := hwO7.below hbn; replace hwD7 := hwD7.below hbn)
        | (refine wpList_load_rowG (by rfl) 29 (.tmp 10) rfl _ rfl 29 cs5 (0, 0) _ hbx7 Try.underlying29 rfl h5.info ?_)
        | (refine wpList_load_rowG (by rfl) 29 (.tmp 5) rfl _ rfl 29 cs (0, 0) _ hbr7 Try.underlying29 rfl hbuf.info ?_))
      go_loopw [12] (fun v wr => ∃ k : Nat, k ≤ m ∧ v = .int .i64 k ∧ Below w.heap.size w wr ∧ WordsS wr (gb + 1) (some ⟨g5, 0, none⟩) m (drained (entL E len) Z) ∧ (∃ b0, WordsS wr b0 B7 m (drained (entL E len) Z)) ∧ (∃ b0, WordsS wr b0 B m Z)) (fun v _ => m - (intOf v).toNat)
      case atStart => exact ⟨0, Nat.zero_le _, rfl, hB7, hwD7, ⟨_, hw7⟩, ⟨_, hwO7⟩⟩
      case round =>
        clear hB7 hwD7 hw7 hwO7 hbr7 hbx7
        obtain ⟨k, hk, rfl, hB, hwD, ⟨b7, hw7⟩, ⟨b8, hwO⟩⟩ := hrel
        by_cases hkm : k < m
        · obtain ⟨gD, cD, eD, _, qD, _, vD⟩ := hwD (by omega)
          obtain ⟨g7, c7', rfl, _, q7, _, v7⟩ := hw7 (by omega)
          obtain ⟨gO, cO, rfl, _, qO, _, vO⟩ := hwO (by omega)
          obtain ⟨bm, om, rfl, hlm, cm⟩ := HZ.out.step hB (by omega)
          injection eD with eD
          injection eD with eD _
          subst eD
          have HW := Lib.hid (And.intro hwD (And.intro hw7 hwO))
          have x1 := (qD.cell k).trans (vD k hkm)
          have x2 := (q7.cell k).trans (v7 k hkm)
          have x3 := (qO.cell k).trans (vO k hkm)
          have x4 := cm k hkm
          have hk0 : (0 : Int) ≤ (k : Int) := by omega
          have hk1 : (k : Int) < (m : Int) := by omega
          clear vD v7 vO cm qD q7 qO hwD hw7 hwO
          generalize drained (entL E len) Z = f at x1 x2 HW ⊢
          go_wp2_with fail
          go_quiet (fail)
          go_wp2_with fail
          go_roundw
          case rel => exact ⟨k + 1, by omega, by go_num, ⟨hB.os, hB.tape, hB.output, hB.size, hB.block⟩, HW.out.1, ⟨_, HW.out.2.1⟩, ⟨_, HW.out.2.2⟩⟩
          case measure => simp [intOf]; omega
        · obtain rfl : m = k := by omega
          have hk1 : ¬ (m : Int) < (m : Int) := by omega
          go_wp2_with fail
          go_ret
          exact ⟨rfl, hB⟩

set_option maxRecDepth 100000 in
theorem bufDrains_lifted (os : Os) (started : os.Started) (H : Type) (enc : TypeId × Value → H) :
    ReturnsInHanded {} Try.checked os 5 .any (Rows.bufDrainsSpec.pre6 enc Try.prog Try.f5 Rows.bufDrainsRow.domain false) (Rows.bufDrainsSpec.post enc Try.prog Try.f5 false true false false) := by
  refine law_lifted started (by kernel_rfl) Try.func5
    (ChangeSpec.witness6 (enc := enc) (C := Try.checked) false ⟨#[], #[.slice none 0 0, .slice none 0 0], []⟩ 8 (by kernel_rfl) (by kernel_rfl) (by kernel_rfl) (by kernel_rfl))
    4 rfl (by kernel_rfl) Try.underlying4 (fun ds h => ?_) (by kernel_rfl) ?_
  · rw [show Try.f5.params.size = 2 from by kernel_rfl] at h
    match ds, h with
    | [_, _], _ => rfl
  intro W base args ds p hval hA hlt hsz
  rw [Try.params5] at hA hval hsz
  obtain ⟨v0, v1, d0, d1, p0, p1, rfl, rfl, rfl, h0, h1⟩ := trodAll_two hA
  obtain ⟨A, len, cap, E, rfl, hlc, hcm, hs, ho⟩ := open_ents (hval 0 22 v0 rfl rfl) h0
  obtain ⟨A', m, cap', Z, rfl, hlc', hcm', hz, hzo⟩ := open_sl_ints Try.underlying49 Try.underlying24 (by kernel_rfl) (hval 1 49 v1 rfl rfl) h1 (fun x hx => hlt x (List.mem_append_right _ hx))
  by_cases hl : len ≤ 16
  · by_cases hm : m ≤ 300
    · exact bufDrains_true A len cap E hl A' m cap' Z hm W hs hz
    · exact bufDrains_long A len cap A' m cap' (by omega) (.inr (by omega)) (by omega) W
  · exact bufDrains_long A len cap A' m cap' (by omega) (.inl (by omega)) (by omega) W

theorem bufDrains_holds : Rows.BufDrainsSaid :=
  OpenClaim.holds_of_wide 5 Try.f5 rfl rfl rfl rfl rfl rfl rfl ⟨rfl, rfl, rfl, rfl, rfl⟩ rfl rfl rfl rfl rfl (by kernel_rfl) Try.func5 (by kernel_rfl)
    (of_decide_eq_true (by kernel_rfl)) (by unfold Func.isWrapper; first | (rw [if_pos (by decide +kernel)]; kernel_rfl) | (rw [if_neg (by decide +kernel)]; exact ⟨rfl, rfl⟩))
    (fun os started H enc _ => bufDrains_lifted os started H enc)

end Go.Proofs.Ytaanmamgmjhegaa
