/- GateCode: the program's code and the document's. -/
import Derived.Test.YtmhfpjnkjlhbpaaDoorGateC
import Derived.Test.YtmhfpjnkjlhbpaaDoorRefT12
namespace Go.Proofs.YtmhfpjnkjlhbpaaDoor
open Go.ChangeShapes Go.WideShapes Go.ChangeAt Go.RowKit Go.Deep
set_option linter.unusedVariables false
set_option maxRecDepth 100000
set_option linter.unusedSimpArgs false

theorem set_eql (w : World) : (binOp .eql 41 (.agg #[.int .i64 1, .int .i64 7, .int .i64 0, .int .i64 0, .int .u32 4]) (.agg #[.int .i64 1, .int .i64 7, .int .i64 0, .int .i64 0, .int .u32 4])).run Tryd.prog w = .ok (.bool true) w := by kernel_rfl
set_option maxHeartbeats 1000000 in
theorem awake21_any (W : World) (hT : Tab W) (hO : ONam W) : Calls Tryd.prog 13 #[] W fun e W' => e = .returned (.bool true) ∧ Below W.heap.size W W' := by
  have cC := code_barS 2 3 16 2 2 (by decide) (by decide) (by decide) (by decide) (by decide) W hT hO
  have hq := set_eql
  go_enter Tryd.func13, Tryd.ntmps13
  go_wp2_with fail
  refine cC.mono ?_
  rintro e W1 ⟨⟨v, rfl, og, cap, cs, rfl, hb, hs, _, _, _, hins⟩, hB⟩
  have hlen : (BB.e.ins ⟨1, 7, 0, 0, 4⟩).out.length = 1 := by kernel_rfl
  have h0 := hins 0 (by rw [hlen]; decide)
  rw [hlen]
  have hg : (BB.e.ins ⟨1, 7, 0, 0, 4⟩).out.getD 0 default = ⟨1, 7, 0, 0, 4⟩ := by kernel_rfl
  rw [hg] at h0
  have q0 := (hb.cell 0).trans (h0 0 _ rfl)
  have q1 := (hb.cell 1).trans (h0 1 _ rfl)
  have q2 := (hb.cell 2).trans (h0 2 _ rfl)
  have q3 := (hb.cell 3).trans (h0 3 _ rfl)
  have q4 := (hb.cell 4).trans (h0 4 _ rfl)
  clear cC hins h0 hb hs
  go_wp2
  go_ret
  exact ⟨rfl, hB⟩


theorem OutI.sleG {W W' : World} {v : Value} {l : List Ins} (h : OutI W v l W') : ∃ A c, v = .slice A l.length c ∧ SlE W' A l.length 5 (fun i => (l.getD i default).cells) := by
  obtain ⟨og, cap, cs, rfl, hb, hs, hl, hc, ho, hi⟩ := h
  refine ⟨_, _, rfl, fun _ => ⟨og, 0, rfl, hb.lt, fun i hii j u hu => ?_⟩⟩
  rw [Nat.zero_add]
  exact (hb.cell _).trans (hi i hii j u hu)
theorem refG_code (T : List TLn) (base t : Nat) (hb : base ≤ 65535) (ht : t ≤ 8) (hT : TOk base t T) (w : World) :
    Calls Tryd.prog 10 #[.string (ba (tplT T)), .int .i64 (base : Int), .int .i64 (t : Int)] w fun e w' => (∃ A c, e = .returned (.tuple #[.slice A (codeT base t T).length c, .int .i64 1]) ∧ SlE w' A (codeT base t T).length 5 (fun i => ((codeT base t T).getD i default).cells)) ∧ Below w.heap.size w w' := by
  refine (r15_code T base t (by omega) (by omega) hT.pos hT.len hT.ok hT.good hT.once hT.there w).mono ?_
  rintro e w' ⟨⟨v, rfl, hr⟩, hB⟩
  obtain ⟨A, c, rfl, _, h⟩ := own_sle Ins.cells (fun _ => rfl) default _ hr
  exact ⟨⟨A, c, rfl, h⟩, hB⟩
theorem TOk.codeLen {base t : Nat} {T : List TLn} (h : TOk base t T) : (codeT base t T).length ≤ 1000 := by
  have h := h.good
  unfold goodB at h
  simp only [Bool.and_eq_true, decide_eq_true_eq] at h
  have h2 : ∀ (L l : List Ln), (fixL L l).length ≤ l.length := fun L l => List.length_filterMap_le _ _
  have := h2 (T.map (TLn.inst base t)) (T.map (TLn.inst base t))
  rw [List.length_map] at this
  unfold codeT
  omega
theorem may15_gate {k n a b call th t : Int} (h : may15 k n a b call th t = true) (hk : k = 12 ∨ k = 13 ∨ k = 15) : (1 ≤ th ∧ th ≤ 8) ∧ (0 ≤ t ∧ t < th) ∧ a = 0 ∧ b = 0 ∧ ((k = 12 ∧ n = 0 ∧ 5 ≤ call ∧ call ≤ 8) ∨ (k = 13 ∧ 1 ≤ n ∧ n ≤ th ∧ call = 9) ∨ (k = 15 ∧ n = 0 ∧ (call = 9 ∨ call = 10))) := by
  unfold may15 right14 may14 at h
  simp only [Bool.and_eq_true, decide_eq_true_eq] at h
  rcases hk with rfl | rfl | rfl <;> omega
/-- What both say. -/
structure GBoth (k n call th arg : Int) (t base : Nat) (T : List TLn) : Prop where
  ok : TOk base t T
  code : ∀ W, Tab W → ONam W → Calls Tryd.prog 14 #[.agg #[.int .i64 k, .int .i64 n, .int .i64 0, .int .i64 0], .int .i64 call, .int .i64 th, .int .i64 (t : Int), .int .u32 (base : Int), .int .u32 arg] W fun e W' => (∃ v, e = .returned (.tuple #[v, .bool true]) ∧ OutI W v (codeT base t T) W') ∧ Below W.heap.size W W'
  text : ∀ w, Calls Tryd.prog 15 #[.int .i64 k, .int .i64 call, .int .i64 n, .int .i64 (t : Int), .int .i64 (base : Int), .int .u32 arg] w fun e w' => e = .returned (.string (ba (tplT T))) ∧ Below w.heap.size w w'
theorem gate_both (k n call th arg : Int) (t base : Nat) (hk : k = 12 ∨ k = 13 ∨ k = 15) (hm : may15 k n 0 0 call th t = true) (hb : base ≤ 65535) (ha : 0 ≤ arg ∧ arg ≤ 4294967295) : ∃ T, GBoth k n call th arg t base T := by
  obtain ⟨hth, ht, _, _, h⟩ := may15_gate hm hk
  have hb2 : 0 ≤ (base : Int) ∧ (base : Int) ≤ 4294960000 := by omega
  have ht2 : t ≤ 1000 := by omega
  rcases h with ⟨rfl, rfl, h5, h8⟩ | ⟨rfl, hn1, hn2, rfl⟩ | ⟨rfl, rfl, hc⟩
  · have h4 : call = 5 ∨ call = 6 ∨ call = 7 ∨ call = 8 := by omega
    rcases h4 with rfl | rfl | rfl | rfl
    · refine ⟨gTickL (base + 1 + t), gTick_ok base t _ (by omega), fun W hT hO => ?_, fun w => r21_tick 0 arg t base ht2 hb w⟩
      rw [gTick_code]
      exact code_tick th base t arg hth ht hb2 ha hm W hT hO
    · refine ⟨gSlpL (base + 1 + t), gSlp_ok base t _ (by omega), fun W hT hO => ?_, fun w => r21_slp 0 arg t base ht2 hb w⟩
      rw [gSlp_code]
      exact code_gslp th base t arg hth ht hb2 ha hm W hT hO
    · refine ⟨gSigL, gSig_ok base t, fun W hT hO => ?_, fun w => r21_sig 0 arg t base ht2 hb w⟩
      rw [gSig_code]
      exact code_gsig th base t arg hth ht hb2 ha hm W hT hO
    · refine ⟨gBroL, gBro_ok base t, fun W hT hO => ?_, fun w => r21_bro 0 arg t base ht2 hb w⟩
      rw [gBro_code]
      exact code_gbro th base t arg hth ht hb2 ha hm W hT hO
  · by_cases hs : n ≤ (t : Int)
    · refine ⟨gStrL, gStr_ok base t, fun W hT hO => ?_, fun w => r21_str n arg t base ht2 hb hs w⟩
      rw [gStr_code]
      exact code_barS n th base t arg hth ht ha ⟨hn1, hn2⟩ hs W hT hO
    · by_cases he : arg = n
      · subst he
        obtain ⟨m, rfl⟩ : ∃ m : Nat, arg = (m : Int) + 1 := ⟨(arg - 1).toNat, by omega⟩
        refine ⟨gMeetL (m + 1), gMeet_ok base t (m + 1) (by omega), fun W hT hO => ?_, fun w => r21_meet m (by omega) t base ht2 hb hs w⟩
        rw [gMeet_code]
        have := code_barM ((m : Int) + 1) th base t hth ht hb2 ⟨hn1, hn2⟩ hs W hT hO
        rw [show (m : Int) + 1 - 1 = (m : Int) by omega] at this
        exact this
      · refine ⟨gOvrL, gOvr_ok base t, fun W hT hO => ?_, fun w => ?_⟩
        · rw [gOvr_code]
          exact code_barO n th base t arg hth ht ha ⟨hn1, hn2⟩ hs he W hT hO
        · by_cases h8 : 8 < arg
          · exact r21_ovr1 n arg t base ht2 hb hs h8 w
          · exact r21_ovr2 n arg t base ht2 hb hs h8 ha.1 he w
  · rcases hc with rfl | rfl
    · refine ⟨gEntL, gEnt_ok base t, fun W hT hO => ?_, fun w => r21_ent 0 arg t base ht2 hb w⟩
      rw [gEnt_code]
      exact code_enter th base t arg hth ht hb2 ha W hT hO
    · refine ⟨gDonL, gDon_ok base t, fun W hT hO => ?_, fun w => r21_don 0 arg t base ht2 hb w⟩
      rw [gDon_code]
      exact code_done th base t arg hth ht hb2 ha W hT hO
end Go.Proofs.YtmhfpjnkjlhbpaaDoor
