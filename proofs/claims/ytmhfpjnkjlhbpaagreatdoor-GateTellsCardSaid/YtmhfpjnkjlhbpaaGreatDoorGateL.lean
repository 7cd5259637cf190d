/- law21: awake; GateTells. -/
import Derived.Test.YtmhfpjnkjlhbpaaGreatDoorGateT
namespace Go.Proofs.YtmhfpjnkjlhbpaaGreatDoor
open Go.ChangeShapes Go.WideShapes Go.ChangeAt Go.RowKit Go.Deep
set_option linter.unusedVariables false
set_option maxRecDepth 100000
set_option linter.unusedSimpArgs false

theorem set_eql (w : World) : (binOp .eql 75 (.agg #[.int .i64 1, .int .i64 7, .int .i64 0, .int .i64 0, .int .u32 4]) (.agg #[.int .i64 1, .int .i64 7, .int .i64 0, .int .i64 0, .int .u32 4])).run Tryz.prog w = .ok (.bool true) w := by kernel_rfl
set_option maxHeartbeats 1000000 in
theorem awake21_any (W : World) (hT : Tab W) (hO : ONam W) : Calls Tryz.prog 32 #[] W fun e W' => e = .returned (.bool true) ∧ Below W.heap.size W W' := by
  have cC := code_barS 2 3 16 2 2 (by decide) (by decide) (by decide) (by decide) (by decide) W hT hO
  have hq := set_eql
  go_enter Tryz.func32, Tryz.ntmps32
  go_wp2_with fail
  refine cC.mono ?_
  rintro e W1 ⟨⟨v, rfl, og, cap, cs, rfl, hb, hs, _, _, _, hins⟩, hB⟩
  have hlen : (BB.e.ins ⟨1, 7, 0, 0, 4⟩).out.length = 1 := by kernel_rfl
  have h0 := hins 0 (by rw [hlen]; decide)
  rw [hlen]
  have hg : (BB.e.ins ⟨1, 7, 0, 0, 4⟩).out.getD 0 default = ⟨1, 7, 0, 0, 4⟩ := by kernel_rfl
  rw [hg] at h0
  have q0 := (hb.cell 0).trans (h0 0 _ rfl)
  have q1 := (hb.cell 1).trans (h0 1 _ rfl)
  have q2 := (hb.cell 2).trans (h0 2 _ rfl)
  have q3 := (hb.cell 3).trans (h0 3 _ rfl)
  have q4 := (hb.cell 4).trans (h0 4 _ rfl)
  clear cC hins h0 hb hs
  go_wp2
  go_ret
  exact ⟨rfl, hB⟩

theorem gtcode_once (who arg : Int) (hw : 0 ≤ who ∧ who < 4) (ha : 0 ≤ arg ∧ arg ≤ 4294967295) (W : World) (call : Nat) (hc : call ∈ gtCs) (hT : Tab W) (hO : ONam W) :
    Calls Tryz.prog 34 #[.agg #[.int .i64 15, .int .i64 0, .int .i64 0, .int .i64 0], .int .i64 (call : Int), .int .i64 4, .int .i64 who, .int .u32 16, .int .u32 arg] W fun e W' => (∃ v, e = .returned (.tuple #[v, .bool true]) ∧ OutI W v (gtL who call) W') ∧ Below W.heap.size W W' := by
  have : call = 9 ∨ call = 10 := by
    simp only [gtCs, List.mem_cons, List.not_mem_nil, or_false] at hc
    omega
  rcases this with rfl | rfl
  · exact code_enter 4 16 who arg (by decide) hw (by decide) ha W hT hO
  · exact code_done 4 16 who arg (by decide) hw (by decide) ha W hT hO
theorem gtcode_bar (N who arg : Int) (hN : 1 ≤ N ∧ N ≤ 4) (hw : 0 ≤ who ∧ who < 4) (ha : 0 ≤ arg ∧ arg ≤ 4294967295) (hs : N ≤ who ∨ ¬ arg = N) (W : World) (call : Nat) (hc : call ∈ [9]) (hT : Tab W) (hO : ONam W) :
    Calls Tryz.prog 34 #[.agg #[.int .i64 13, .int .i64 N, .int .i64 0, .int .i64 0], .int .i64 (call : Int), .int .i64 4, .int .i64 who, .int .u32 16, .int .u32 arg] W fun e W' => (∃ v, e = .returned (.tuple #[v, .bool true]) ∧ OutI W v (gbL (if N ≤ who then 4 else 3) call) W') ∧ Below W.heap.size W W' := by
  obtain rfl : call = 9 := by simpa using hc
  by_cases h : N ≤ who
  · rw [if_pos h]
    exact code_barS N 4 16 who arg (by decide) hw ha hN h W hT hO
  · rw [if_neg h]
    exact code_barO N 4 16 who arg (by decide) hw ha hN h (by rcases hs with hs | hs; exact absurd hs h; exact hs) W hT hO

theorem gt_world (W1 : World) (o2 : Obj) (who : Int) : Blk (((W1.alloc (.cells #[.int .i64 4] 3)).alloc o2).alloc (.cells #[.int .i64 who] 3)) W1.heap.size 3 #[.int .i64 4] ∧
    Blk (((W1.alloc (.cells #[.int .i64 4] 3)).alloc o2).alloc (.cells #[.int .i64 who] 3)) (W1.heap.size + 1 + 1) 3 #[.int .i64 who] ∧
    (((W1.alloc (.cells #[.int .i64 4] 3)).alloc o2).alloc (.cells #[.int .i64 who] 3)).heap.size = W1.heap.size + 1 + 1 + 1 ∧ Below W1.heap.size W1 (((W1.alloc (.cells #[.int .i64 4] 3)).alloc o2).alloc (.cells #[.int .i64 who] 3)) := by
  have e2 : ((W1.alloc (.cells #[.int .i64 4] 3)).alloc o2).heap.size = W1.heap.size + 1 + 1 := by simp
  have h2 := Blk.new ((W1.alloc (.cells #[.int .i64 4] 3)).alloc o2) 3 #[.int .i64 who]
  rw [e2] at h2
  refine ⟨((Blk.new W1 3 #[.int .i64 4]).alloc o2).alloc _, h2, by simp, ?_⟩
  exact (((Below.refl W1.heap.size W1).alloc (Nat.le_refl _) _).alloc (by simp) _).alloc (by simp; omega) _
/-- One run in a world that holds what the closure captured. -/
theorem gt_one (o0 o1 who arg : Int) (C : Nat → List Ins) (cs : List Nat) (hcs : cs.length ≤ 10) (hgood : CGood C cs) (hright : ((cAll C cs).all fun i => rightB i ((cAll C cs).length : Int)) = true) (hfew : (gtRun C cs).evs.length ≤ 1000) (hmem : (gtRun C cs).mem.length = 18)
    (hcode : ∀ (W : World) (call : Nat), call ∈ cs → Tab W → ONam W → Calls Tryz.prog 34 #[.agg #[.int .i64 o0, .int .i64 o1, .int .i64 0, .int .i64 0], .int .i64 (call : Int), .int .i64 4, .int .i64 who, .int .u32 16, .int .u32 arg] W fun e W' => (∃ v, e = .returned (.tuple #[v, .bool true]) ∧ OutI W v (C call) W') ∧ Below W.heap.size W W')
    (tb wb ab : Nat) (W : World) (hT : Tab W) (hO : ONam W) (htb : Blk W tb 3 #[.int .i64 4]) (hwb : Blk W wb 3 #[.int .i64 who]) (hab : Blk W ab 42 #[.int .u32 arg]) (outs mem : List Int) (ho : outsP (gtRun C cs).evs = outs) (hm : (gtRun C cs).mem = mem) (l : Nat) (hl : cs.length = l) (cells : Array Value) (hcl : (cs.map fun (c : Nat) => Value.int .i64 (c : Int)).toArray = cells) :
    Calls Tryz.prog 33 #[.agg #[.int .i64 o0, .int .i64 o1, .int .i64 0, .int .i64 0], .slice (some ⟨W.heap.size, 0, none⟩) l l, .pointer (some ⟨tb, 0, none⟩), .pointer (some ⟨wb, 0, none⟩), .pointer (some ⟨ab, 0, none⟩)] (W.alloc (.cells cells 3)) fun e W' =>
      (∃ vo vm, e = .returned (.tuple #[vo, vm]) ∧ W'.ownsRow (W.heap.size + 1) 42 1 vo outs.length (outs.map (Value.int .u32)) ∧ W'.ownsRow (W.heap.size + 1) 42 1 vm mem.length (mem.map (Value.int .u32))) ∧ Below W.heap.size W W' := by
  subst ho hm hl hcl
  have hal := (Below.refl W.heap.size W).alloc (Nat.le_refl _) (.cells (cs.map fun (c : Nat) => Value.int .i64 (c : Int)).toArray 3)
  refine (gtrun_any o0 o1 who arg C cs hcs hgood hright hfew hmem hcode W.heap.size tb wb ab _ (hT.step hal) (hO.step hal) (Blk.new _ _ _) (htb.alloc _) (hwb.alloc _) (hab.alloc _)).mono ?_
  rintro e W' ⟨⟨vo, vm, rfl, h1, h2⟩, hb⟩
  have e1 : (W.alloc (.cells (cs.map fun (c : Nat) => Value.int .i64 (c : Int)).toArray 3)).heap.size = W.heap.size + 1 := by simp
  rw [e1] at h1 h2
  exact ⟨⟨vo, vm, rfl, h1, h2⟩, step_below hal hb⟩
theorem u32_cells {W : World} {b n : Nat} {v : Value} {xs : List Int} (h : W.ownsRow b 42 1 v n (xs.map (Value.int .u32))) (hn : xs.length = n) (h0 : 0 < n) : ∃ g o cap, v = .slice (some ⟨g, o, none⟩) n cap ∧ ∀ i, i < n → W.cell? ⟨g, o + i, none⟩ = some (.int .u32 (xs.getD i 0)) := by
  obtain ⟨A, cap, rfl, _, hs⟩ := own_sl h
  obtain ⟨g, o, rfl, _, hc⟩ := hs (by omega)
  refine ⟨g, o, cap, rfl, fun i hi => (hc i (by omega)).trans ?_⟩
  have hi2 : i < xs.length := by omega
  simp [List.getD_eq_getElem?_getD, List.getElem?_eq_getElem hi2]

set_option maxHeartbeats 4000000 in
theorem gateTells_true (n t arg : Int) (hn : 0 ≤ n ∧ n ≤ 255) (ht : 0 ≤ t ∧ t ≤ 255) (ha : 0 ≤ arg ∧ arg ≤ 4294967295) (w : World) (hT : Tab w) (hO : ONam w) :
    Calls Tryz.prog 7 #[.int .u8 n, .int .u8 t, .int .u32 arg] w fun e w' => e = .returned (.bool true) ∧ Below w.heap.size w w' := by
  have hal := (Below.refl w.heap.size w).alloc (Nat.le_refl _) (.cells #[.int .u32 arg] 42)
  have hA := Blk.new w 42 #[.int .u32 arg]
  have cA := awake21_any _ (hT.step hal) (hO.step hal)
  obtain ⟨N, hN⟩ : ∃ N, 1 + n % 4 = N := ⟨_, rfl⟩
  obtain ⟨who, hwho⟩ : ∃ who, t % 4 = who := ⟨_, rfl⟩
  have hN4 : 1 ≤ N ∧ N ≤ 4 := by omega
  have hw4 : 0 ≤ who ∧ who < 4 := by omega
  by_cases hC : N ≤ who ∨ ¬ arg = N
  case pos =>
    rcases Decidable.em (N ≤ who) with h1 | h1
    case' inl => have hwv : (if N ≤ who then (4 : Int) else 3) = 4 := if_pos h1
    case' inr =>
      have hwv : (if N ≤ who then (4 : Int) else 3) = 3 := if_neg h1
      have h2 : ¬ arg = N := hC.resolve_left h1
      have h2b : (arg != N) = true := by simpa using h2
      have h2c : (arg == N) = false := by simpa using h2
    all_goals
      go_enter Tryz.func7, Tryz.ntmps7
      go_wp2_with fail
      refine cA.mono ?_
      rintro e W1 ⟨rfl, hB1⟩
      have hb1 := step_below hal hB1
      have hA1 := hA.below hB1 hA.lt
      obtain ⟨kt, kw, ks, kb⟩ := gt_world W1 (.cells #[.int .i64 13, .int .i64 N, .int .i64 0, .int .i64 0] 46) who
      have ka := hA1.below kb hA1.lt
      have a0 := (ka.cell 0).trans rfl
      have hTO := Lib.hid (And.intro (hT.step (step_below hb1 kb)) (And.intro (hO.step (step_below hb1 kb)) (And.intro (step_below hb1 kb) (And.intro kt (And.intro kw (And.intro ka ks))))))
      clear cA hal hA hB1 hb1 hA1 kt kw ka ks kb
      go_wp2_with fail
      have cR := gt_one 13 N who arg (gbL (if N ≤ who then 4 else 3)) [9] (by decide) (gb_good (by rw [hwv]; decide)) (gb_right _) (gb_run _).2.2 (by rw [(gb_run _).2.1]; rfl) (fun W call hc hT hO => gtcode_bar N who arg hN4 hw4 ha hC W call hc hT hO) W1.heap.size (W1.heap.size + 1 + 1) w.heap.size _ hTO.out.1 hTO.out.2.1 hTO.out.2.2.2.1 hTO.out.2.2.2.2.1 hTO.out.2.2.2.2.2.1 _ _ (gb_run _).1 (gb_run _).2.1 1 rfl _ rfl
      rw [hTO.out.2.2.2.2.2.2, hwv] at cR
      refine cR.mono ?_
      rintro e W5 ⟨⟨vo, vm, rfl, r1, r2⟩, hb5⟩
      clear cR
      rw [← hTO.out.2.2.2.2.2.2] at hb5
      obtain ⟨g1, p1, q1, rfl, f1⟩ := u32_cells r1 rfl (by decide)
      obtain ⟨g2, p2, q2, rfl, f2⟩ := u32_cells r2 rfl (by decide)
      have o0 := f1 0 (show 0 < 1 by decide)
      have m16 := f2 16 (show 16 < 18 by decide)
      have m17 := f2 17 (show 17 < 18 by decide)
      rw [Nat.add_zero] at o0
      change W5.cell? _ = some (Value.int .u32 _) at o0
      change W5.cell? _ = some (Value.int .u32 0) at m16
      change W5.cell? _ = some (Value.int .u32 0) at m17
      have HT5 := Lib.hid (And.intro (hTO.out.1.step hb5) (And.intro (hTO.out.2.1.step hb5) (And.intro (hTO.out.2.2.2.1.below hb5 hTO.out.2.2.2.1.lt) (And.intro (hTO.out.2.2.2.2.1.below hb5 hTO.out.2.2.2.2.1.lt) (And.intro (hTO.out.2.2.2.2.2.1.below hb5 hTO.out.2.2.2.2.2.1.lt) (step_below hTO.out.2.2.1 hb5))))))
      clear f1 f2 r1 r2 hb5 a0
      go_wp2_with fail
      have hOnce := gt_one 15 0 who arg (gtL who) gtCs (by decide) (gt_good hw4) (gt_right hw4) (gt_few hw4) (by exact (gt_mem hw4).2) (fun W call hc hT hO => gtcode_once who arg hw4 ha W call hc hT hO) W1.heap.size (W1.heap.size + 1 + 1) w.heap.size W5 HT5.out.1 HT5.out.2.1 HT5.out.2.2.1 HT5.out.2.2.2.1 HT5.out.2.2.2.2.1 _ _ (gt_outs hw4) rfl 6 rfl _ rfl
      refine hOnce.mono ?_
      rintro e W9 ⟨⟨xo, xm, rfl, r3, r4⟩, hb9⟩
      clear hOnce
      obtain ⟨g3, p3, q3, rfl, f3⟩ := u32_cells r3 rfl (by decide)
      have hml := (gt_mem hw4).2
      have hmv := (gt_mem hw4).1
      obtain ⟨g4, p4, q4, rfl, f4⟩ := u32_cells r4 rfl (by rw [hml]; decide)
      have x0 := f3 0 (show 0 < 6 by decide)
      have x1 := f3 1 (show 1 < 6 by decide)
      have x2 := f3 2 (show 2 < 6 by decide)
      have x3 := f3 3 (show 3 < 6 by decide)
      have x4 := f3 4 (show 4 < 6 by decide)
      have x5 := f3 5 (show 5 < 6 by decide)
      have y16 := f4 16 (by rw [hml]; decide)
      rw [hmv] at y16
      rw [Nat.add_zero] at x0
      change W9.cell? _ = some (Value.int .u32 2) at x0
      change W9.cell? _ = some (Value.int .u32 5) at x1
      change W9.cell? _ = some (Value.int .u32 1) at x2
      change W9.cell? _ = some (Value.int .u32 0) at x3
      change W9.cell? _ = some (Value.int .u32 2) at x4
      change W9.cell? _ = some (Value.int .u32 0) at x5
      rw [hml]
      have HQ := Lib.hid (step_below HT5.out.2.2.2.2.2 hb9)
      clear f3 f4 r3 r4 hb9 hml hmv
      go_wp2
      go_ret
      exact ⟨rfl, HQ.out⟩
  case neg =>
    have h1 : ¬ N ≤ who := fun h => hC (.inl h)
    have h3 : arg = N := Decidable.byContradiction fun h => hC (.inr h)
    have h2b : (arg != N) = false := by simp [h3]
    have h2c : (arg == N) = true := by simp [h3]
    clear h3 hC
    case' _ =>
      go_enter Tryz.func7, Tryz.ntmps7
      go_wp2_with fail
      refine cA.mono ?_
      rintro e W1 ⟨rfl, hB1⟩
      have hb1 := step_below hal hB1
      have hA1 := hA.below hB1 hA.lt
      obtain ⟨kt, kw, ks, kb⟩ := gt_world W1 (.cells #[.int .i64 13, .int .i64 N, .int .i64 0, .int .i64 0] 46) who
      have ka := hA1.below kb hA1.lt
      have a0 := (ka.cell 0).trans rfl
      have HT5 := Lib.hid (And.intro (hT.step (step_below hb1 kb)) (And.intro (hO.step (step_below hb1 kb)) (And.intro kt (And.intro kw (And.intro ka (step_below hb1 kb))))))
      have ks5 := ks
      clear cA hal hA hB1 hb1 hA1 kt kw ka ks kb
      go_wp2_with fail
      rw [← ks5]
      generalize (((W1.alloc (.cells #[.int .i64 4] 3)).alloc (.cells #[.int .i64 13, .int .i64 N, .int .i64 0, .int .i64 0] 46)).alloc (.cells #[.int .i64 who] 3)) = W5 at HT5 a0 ⊢
      have hOnce := gt_one 15 0 who arg (gtL who) gtCs (by decide) (gt_good hw4) (gt_right hw4) (gt_few hw4) (by exact (gt_mem hw4).2) (fun W call hc hT hO => gtcode_once who arg hw4 ha W call hc hT hO) W1.heap.size (W1.heap.size + 1 + 1) w.heap.size W5 HT5.out.1 HT5.out.2.1 HT5.out.2.2.1 HT5.out.2.2.2.1 HT5.out.2.2.2.2.1 _ _ (gt_outs hw4) rfl 6 rfl _ rfl
      refine hOnce.mono ?_
      rintro e W9 ⟨⟨xo, xm, rfl, r3, r4⟩, hb9⟩
      clear hOnce
      obtain ⟨g3, p3, q3, rfl, f3⟩ := u32_cells r3 rfl (by decide)
      have hml := (gt_mem hw4).2
      have hmv := (gt_mem hw4).1
      obtain ⟨g4, p4, q4, rfl, f4⟩ := u32_cells r4 rfl (by rw [hml]; decide)
      have x0 := f3 0 (show 0 < 6 by decide)
      have x1 := f3 1 (show 1 < 6 by decide)
      have x2 := f3 2 (show 2 < 6 by decide)
      have x3 := f3 3 (show 3 < 6 by decide)
      have x4 := f3 4 (show 4 < 6 by decide)
      have x5 := f3 5 (show 5 < 6 by decide)
      have y16 := f4 16 (by rw [hml]; decide)
      rw [hmv] at y16
      rw [Nat.add_zero] at x0
      change W9.cell? _ = some (Value.int .u32 2) at x0
      change W9.cell? _ = some (Value.int .u32 5) at x1
      change W9.cell? _ = some (Value.int .u32 1) at x2
      change W9.cell? _ = some (Value.int .u32 0) at x3
      change W9.cell? _ = some (Value.int .u32 2) at x4
      change W9.cell? _ = some (Value.int .u32 0) at x5
      rw [hml]
      have HQ := Lib.hid (step_below HT5.out.2.2.2.2.2 hb9)
      clear f3 f4 r3 r4 hb9 hml hmv
      go_wp2
      go_ret
      exact ⟨rfl, HQ.out⟩
end Go.Proofs.YtmhfpjnkjlhbpaaGreatDoor
