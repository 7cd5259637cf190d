/- IsaChecks returns true for every program, in a world that holds the tables: the row and the card. -/
import Derived.Test.YtlmhifnanhkcnaaDoorIsaRefCheck
import Derived.Test.YtlmhifnanhkcnaaDoorIsaAwake
import Derived.Test.YtlmhifnanhkcnaaDoorCard
namespace Go.Proofs.YtlmhifnanhkcnaaDoor
open Go.ChangeShapes Go.WideShapes Go.ChangeAt Go.RowKit Go.Deep
set_option linter.unusedVariables false

set_option maxHeartbeats 2000000 in
theorem isaChecks_true (p : Pg) (ho : p.Ok) (w : World) (ht : Tab w) (ha : p.At w) :
    Calls Tryd.prog 5 #[p.val] w fun e w' => e = .returned (.bool true) ∧ Below w.heap.size w w' := by
  obtain ⟨t, j, e, hC⟩ := chk_some p
  have cI := check_any p ho t j e hC
  have cR := refCheck_any p ho t j e hC
  clear hC
  obtain ⟨A, n, cap, cd, mA, m, mcap, Z, room⟩ := p
  obtain ⟨hl, hm, _, _, cds, _, _, _⟩ := ho
  have ha' := ha
  obtain ⟨hcodes, hcode, _⟩ := ha'
  unfold Pg.val at cI cR ⊢
  dsimp only at *
  unfold maxLen at hm
  have hB := (Below.refl w.heap.size w).alloc (Nat.le_refl _) (Obj.cells #[.slice A n cap, .slice mA m mcap, .int .i64 room] 38)
  have hq := Blk.new w 38 #[.slice A n cap, .slice mA m mcap, .int .i64 room]
  have HS := Lib.hid hcodes
  have HO := Lib.hid cds
  have HI := Lib.hid cI
  have HR := Lib.hid cR
  clear hcodes hcode cds cI cR
  go_enter Tryd.func5, Tryd.ntmps5
  go_wp2
  obtain ⟨w0, hw0⟩ : ∃ w0, w.alloc (Obj.cells #[.slice A n cap, .slice mA m mcap, .int .i64 room] 38) = w0 := ⟨_, rfl⟩
  rw [hw0] at hB hq ⊢
  clear hw0
  have q0 := hq.cell 0
  have q1 := hq.cell 1
  have q2 := hq.cell 2
  simp only [List.getElem?_toArray, List.getElem?_cons_zero, List.getElem?_cons_succ] at q0 q1 q2
  have HQ := Lib.hid (And.intro hq (And.intro q1 q2))
  clear hq q1 q2
  go_loopw [3, 4] (fun s v wr => ∃ (k : Nat) (z : Int), k ≤ n ∧ v = .int .i64 k ∧ s = .int .i64 z ∧ 0 ≤ z ∧ z ≤ 10001 ∧ wr = w0) (fun _ v _ => n - (intOf v).toNat)
  case atStart => exact ⟨0, 0, Nat.zero_le _, rfl, rfl, by omega, by omega, rfl⟩
  case round =>
    obtain ⟨k, z, hk, rfl, rfl, hz0, hz1, rfl⟩ := hrel
    by_cases hc : k < n ∧ z ≤ 5000
    · obtain ⟨hkn, hz5⟩ := hc
      obtain ⟨b, off, rfl, hlt, hcc⟩ := HS.out.step hB (by omega)
      have hcell := hcc k hkn
      have hok := HO.out k hkn
      obtain ⟨hl', hm', _⟩ := hok
      unfold Cd.val at hcell
      dsimp only at hcell
      unfold maxLen at hm'
      clear hcc
      generalize (cd k).A = A' at *
      generalize (cd k).cap = c' at *
      generalize (cd k).len = l' at *
      have hk0 : (k : Int) < (n : Int) := by omega
      go_wp2
      go_roundw
      case rel => exact ⟨k + 1, _, by omega, by go_num, rfl, by split <;> omega, by split <;> omega, by trivial⟩
      case measure => simp [intOf]; omega
    · by_cases hz5 : z ≤ 5000
      · obtain rfl : k = n := by omega
        clear hc
        have ht0 := ht.step hB
        go_wp2_with fail
        refine (awake02_any _ ht0).mono ?_
        rintro e' w1 ⟨rfl, hb1⟩
        have hB1 := step_below hB hb1
        have ht1 := ht.step hB1
        have hq1 := HQ.out.1.below hb1 HQ.out.1.lt
        have g0 := hq1.cell 0
        have g1 := hq1.cell 1
        have g2 := hq1.cell 2
        simp only [List.getElem?_toArray, List.getElem?_cons_zero, List.getElem?_cons_succ] at g0 g1 g2
        clear q0
        go_wp2_with fail
        refine (HI.out _ ht1 (ha.step hB1)).mono ?_
        rintro e' w2 ⟨rfl, hb2⟩
        have hB2 := step_below hB1 hb2
        have hq2 := hq1.below hb2 hq1.lt
        have f0 := hq2.cell 0
        have f1 := hq2.cell 1
        have f2 := hq2.cell 2
        simp only [List.getElem?_toArray, List.getElem?_cons_zero, List.getElem?_cons_succ] at f0 f1 f2
        clear g0 g1 g2
        go_wp2_with fail
        refine (HR.out _ (ha.step hB2)).mono ?_
        rintro e' w3 ⟨rfl, hb3⟩
        have hB3 := step_below hB2 hb3
        go_wp2
        go_ret
        exact ⟨rfl, hB3⟩
      · have hk0 : k ≤ n := hk
        have ht0 := ht.step hB
        by_cases hkn : (k : Int) < (n : Int)
        all_goals
          go_wp2_with fail
          refine (awake02_any _ ht0).mono ?_
          rintro e' w1 ⟨rfl, hb1⟩
          have hB1 := step_below hB hb1
          have ht1 := ht.step hB1
          go_wp2_with fail
          refine (awake02_any _ ht1).mono ?_
          rintro e' w2 ⟨rfl, hb2⟩
          have hB2 := step_below hB1 hb2
          go_wp2
          go_ret
          exact ⟨rfl, hB2⟩

theorem isaChecks_met (os : Os) : laidMet Tryd.prog theLaid ((laidWorld os).forCall (fun _ _ => 0) ⟨#[], #[.agg #[.slice none 0 0, .slice none 0 0, .int .i64 0]], []⟩).memory :=
  laidMet_of_run' 8 (by kernel_rfl) (by kernel_rfl)
theorem isaChecks_reads (os : Os) {H : Type} (enc : TypeId × Value → H) : ∃ places, DataW.whole enc Tryd.prog ((laidWorld os).forCall (fun _ _ => 0) ⟨#[], #[.agg #[.slice none 0 0, .slice none 0 0, .int .i64 0]], []⟩).memory Tryd.f5.params.toList Rows.isaChecksSpec.vars false (#[.agg #[.slice none 0 0, .slice none 0 0, .int .i64 0]] : Array Value).toList 8 = some ([.agg [.nil, .nil, .lit (.int .i64 0)]], [], places) :=
  ⟨[], by kernel_rfl⟩

set_option maxRecDepth 100000 in
theorem isaChecks_lifted (os : Os) (started : os.Started) (H : Type) (enc : TypeId × Value → H) (F : Stop.Interp) :
    ReturnsInHanded {} Tryd.checked os 5 .any ((OpenSpec.ofChange Rows.isaChecksSpec).preRow enc Tryd.prog Tryd.f5 Rows.isaChecksRow.domain false Rows.isaChecksRow.laid) (((OpenSpec.ofChange Rows.isaChecksSpec).at F).post enc Tryd.prog Tryd.f5 false true false false) := by
  obtain ⟨places, hx⟩ := isaChecks_reads os enc
  refine card_lifted started (by kernel_rfl) Tryd.func5
    (witness_row_at (enc := enc) (C := Tryd.checked) false (laidWorld os) #[.agg #[.slice none 0 0, .slice none 0 0, .int .i64 0]] rfl (by kernel_rfl) (by kernel_rfl) (by kernel_rfl)
      (OpenSpec.preRow_of_cond 8 hx (by kernel_rfl) (fun k hk => by cases hk) (by kernel_rfl) (isaChecks_met os)))
    4 rfl (by kernel_rfl) Tryd.underlying4 (fun ds h => ?_) (by kernel_rfl) ?_
  · rw [show Tryd.f5.params.size = 1 from by kernel_rfl] at h
    match ds, h with
    | [_], _ => rfl
  intro W base args ds p hT hval hA hlt hsz
  rw [Tryd.params5] at hA hval hsz
  obtain ⟨v0, d0, rfl, rfl, h0⟩ := trodAll_one hA
  obtain ⟨q, rfl, ho, ha⟩ := open_prog (hval 0 38 v0 rfl rfl) h0
  exact isaChecks_true q ho W hT ha

theorem isaChecks_said : Rows.IsaChecksSaid :=
  OpenClaim.holds_of_cond 5 Tryd.f5 rfl rfl rfl rfl rfl rfl rfl ⟨rfl, rfl, rfl, rfl, rfl⟩ rfl rfl rfl rfl rfl (by kernel_rfl) Tryd.func5 (by kernel_rfl)
    (of_decide_eq_true (by kernel_rfl)) (by unfold Func.isWrapper; first | (rw [if_pos (by decide +kernel)]; kernel_rfl) | (rw [if_neg (by decide +kernel)]; exact ⟨rfl, rfl⟩))
    (fun os started H enc _ F => by rw [OpenClaim.pre_eq_preRow]; exact isaChecks_lifted os started H enc F)

theorem isaChecks_plain (f : FuncId) (fn : Func) (hf : Tryd.pinned.checked.prog.funcNamed "deadlatch/deadlatchlaw02.IsaChecks" = some f) (hfn : Tryd.pinned.checked.prog.funcs[f]? = some fn) :
    false = Tryd.pinned.checked.prog.looks [] ∧ ∀ (j : Nat) t, fn.params[j]? = some t → Tryd.pinned.checked.prog.wantsStandIn t = false := by
  obtain rfl : f = 5 := Option.some.inj ((show Tryd.prog.funcNamed "deadlatch/deadlatchlaw02.IsaChecks" = some 5 by kernel_rfl).symm.trans hf) |>.symm
  obtain rfl : fn = Tryd.f5 := (Option.some.inj (Tryd.func5.symm.trans hfn)).symm
  refine ⟨by kernel_rfl, fun j t ht => ?_⟩
  rw [Tryd.params5] at ht
  have hm : t = 38 := by simpa using Array.mem_of_getElem? ht
  rcases hm with rfl
  · exact (show Tryd.prog.wantsStandIn 38 = false by kernel_rfl)

theorem isaChecks_card : Rows.IsaChecksCardSaid :=
  Claim7.holds_tied_plain_at .later [] _ _ _ _ isaChecks_said (fun _ h => by cases h) (by kernel_rfl) (fun _ h => by cases h) isaChecks_row_tie rfl ⟨rfl, rfl⟩ (by kernel_rfl) rfl isaChecks_plain (by kernel_rfl)
end Go.Proofs.YtlmhifnanhkcnaaDoor
