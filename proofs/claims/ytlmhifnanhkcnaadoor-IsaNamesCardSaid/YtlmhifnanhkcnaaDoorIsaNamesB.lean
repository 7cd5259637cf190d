/- IsaNames: the law over the facts of its functions. -/
import Derived.Test.YtlmhifnanhkcnaaDoorIsaNames
namespace Go.Proofs.YtlmhifnanhkcnaaDoor
open Go.ChangeShapes Go.WideShapes Go.ChangeAt Go.RowKit
set_option linter.unusedVariables false

/-- What the functions answer for a kind. -/
structure OpFacts (op n : Int) (s f : ByteArray) (ok vT vM vD : Bool) : Prop where
  name : ∀ w, Tab w → Calls Tryd.prog 14 #[.int .i64 op] w fun e w' => e = .returned (.string s) ∧ Below w.heap.size w w'
  ref : ∀ w, Calls Tryd.prog 15 #[.int .i64 op] w fun e w' => e = .returned (.tuple #[.string s, .string f]) ∧ Below w.heap.size w w'
  number : ∀ w, Tab w → Calls Tryd.prog 16 #[.string s] w fun e w' => e = .returned (.tuple #[.int .i64 n, .bool ok]) ∧ Below w.heap.size w w'
  jumps : ∀ w, Tab w → Calls Tryd.prog 17 #[.int .i64 op] w fun e w' => e = .returned (.bool vT) ∧ Below w.heap.size w w'
  asks : ∀ w, Tab w → Calls Tryd.prog 19 #[.int .i64 op] w fun e w' => e = .returned (.bool vM) ∧ Below w.heap.size w w'
  hasT : ∀ w, Calls Tryd.prog 18 #[.int .i64 op, .int .u8 84] w fun e w' => e = .returned (.bool vT) ∧ Below w.heap.size w w'
  hasM : ∀ w, Calls Tryd.prog 18 #[.int .i64 op, .int .u8 77] w fun e w' => e = .returned (.bool vM) ∧ Below w.heap.size w w'
  drains : ∀ w, Calls Tryd.prog 20 #[.int .i64 op] w fun e w' => e = .returned (.bool vD) ∧ Below w.heap.size w w'
  told : ok = true ∧ s.toList.isEmpty = false ∧ op = n ∨ ok = false ∧ s = ⟨#[]⟩
  isD : vD = decide (DrainP op)

theorem nm_empty (k : Nat) (hk : k < 28) : ((nmS k).toList == (⟨#[]⟩ : ByteArray).toList) = false := by
  have h := (use_at k hk).2.2.2.2.2.2
  have e : (⟨#[]⟩ : ByteArray).toList = [] := ByteArray.toList_empty
  rw [e]
  cases hq : (nmS k).toList with
  | nil => simp [hq] at h
  | cons a l => rfl

theorem opFacts (op : Int) : ∃ n s f ok vT vM vD, OpFacts op n s f ok vT vM vD := by
  by_cases h : 0 ≤ op ∧ op < 28
  · obtain ⟨i, rfl⟩ : ∃ i : Nat, op = (i : Int) := ⟨op.toNat, by omega⟩
    have hi : i < 28 := by omega
    exact ⟨i, nmS i, flS i, true, hasF i 84, hasF i 77, _, name_in i hi, refName_in i hi, number_found i hi, jumps_in i hi, asks_in i hi, has_in i 84 hi, has_in i 77 hi, drains_v _, .inl ⟨rfl, (use_at i hi).2.2.2.2.2.2, rfl⟩, rfl⟩
  · have h' : op < 0 ∨ 28 ≤ op := by omega
    exact ⟨0, ⟨#[]⟩, ⟨#[]⟩, false, false, false, _, fun w _ => name_out op h' w, refName_out op h', number_none ⟨#[]⟩ nm_empty, fun w _ => jumps_out op h' w, fun w _ => asks_out op h' w, has_out op 84 h', has_out op 77 h', drains_v _, .inr ⟨rfl, rfl⟩, rfl⟩

/-- What Number answers for a name. -/
structure NmFacts (nm : ByteArray) (k : Int) (is : Bool) : Prop where
  number : ∀ w, Tab w → Calls Tryd.prog 16 #[.string nm] w fun e w' => e = .returned (.tuple #[.int .i64 k, .bool is]) ∧ Below w.heap.size w w'
  told : is = true ∧ (∀ w, Tab w → Calls Tryd.prog 14 #[.int .i64 k] w fun e w' => e = .returned (.string nm) ∧ Below w.heap.size w w') ∨ is = false ∧ k = 0

theorem ba_toList {a b : ByteArray} (h : (a.toList == b.toList) = true) : a = b := by
  rw [Go.ByteArray.toList_eq, Go.ByteArray.toList_eq] at h
  exact ba_ext h

theorem nmFacts (nm : ByteArray) : ∃ k is, NmFacts nm k is := by
  by_cases h : ∃ k, k < 28 ∧ ((nmS k).toList == nm.toList) = true
  · obtain ⟨k, hk, he⟩ := h
    obtain rfl := ba_toList he
    exact ⟨k, true, number_found k hk, .inl ⟨rfl, name_in k hk⟩⟩
  · exact ⟨0, false, number_none nm fun k hk => by
      cases hq : ((nmS k).toList == nm.toList)
      · rfl
      · exact absurd ⟨k, hk, hq⟩ h, .inr ⟨rfl, rfl⟩⟩

set_option maxRecDepth 8000 in
theorem isaNames_true (op : Int) (nm : ByteArray) (w : World) (ht : Tab w) :
    Calls Tryd.prog 4 #[.int .i64 op, .string nm] w fun e w' => e = .returned (.bool true) ∧ Below w.heap.size w w' := by
  obtain ⟨n, s, f, ok, vT, vM, vD, cName, cRef, cNumber, cJumps, cAsks, cHasT, cHasM, cDrains, told, isD⟩ := opFacts op
  obtain ⟨k, is, cNum2, told2⟩ := nmFacts nm
  go_enter Tryd.func4, Tryd.ntmps4
  go_wp2_with fail
  refine (awake02_any _ ht).mono ?_
  rintro e w1 ⟨rfl, hb1⟩
  have ht1 := ht.step hb1
  go_wp2_with fail
  refine (cRef _).mono ?_
  rintro e w2 ⟨rfl, hb2⟩
  replace hb2 := step_below hb1 hb2
  have ht2 := ht.step hb2
  clear ht1 hb1
  go_wp2_with fail
  refine (cNumber _ ht2).mono ?_
  rintro e w3 ⟨rfl, hb3⟩
  replace hb3 := step_below hb2 hb3
  have ht3 := ht.step hb3
  clear ht2 hb2
  rcases told with ⟨rfl, he, rfl⟩ | ⟨rfl, rfl⟩ <;> rcases told2 with ⟨rfl, cName2⟩ | ⟨rfl, rfl⟩
  all_goals
    go_wp2_with fail
    refine (cName _ ht3).mono ?_
    rintro e w4 ⟨rfl, hb4⟩
    replace hb4 := step_below hb3 hb4
    have ht4 := ht.step hb4
    clear ht3 hb3
    go_wp2_with fail
    refine (cNum2 _ ht4).mono ?_
    rintro e w5 ⟨rfl, hb5⟩
    replace hb5 := step_below hb4 hb5
    have ht5 := ht.step hb5
    clear ht4 hb4
    go_upto_region 10 with (go_at_call 14; refine (cName2 _ ht5).mono ?_; rintro e w6 ⟨rfl, hb6⟩; replace hb5 := step_below hb5 hb6; replace ht5 := ht.step hb5)
    go_cut [11] (fun d wx => d = .bool vD ∧ Below w.heap.size w wx)
    case first =>
      subst isD
      rcases (show op < 18 ∨ (18 ≤ op ∧ op ≤ 21) ∨ op = 22 ∨ (23 ≤ op ∧ op ≤ 25) ∨ 25 < op by omega) with h | h | h | h | h
      · have hd : decide (DrainP op) = false := decide_eq_false (by unfold DrainP; omega)
        go_wp2_with fail
        go_meet
        case rel => exact ⟨congrArg Value.bool hd.symm, hb5⟩
      · have hd : decide (DrainP op) = true := decide_eq_true (by unfold DrainP; omega)
        obtain ⟨h1, h2⟩ := h
        go_wp2_with fail
        go_meet
        case rel => exact ⟨congrArg Value.bool hd.symm, hb5⟩
      · subst h
        go_wp2_with fail
        go_meet
        case rel => exact ⟨rfl, hb5⟩
      · have hd : decide (DrainP op) = true := decide_eq_true (by unfold DrainP; omega)
        obtain ⟨h1, h2⟩ := h
        have h3 : ¬ op ≤ 21 := by omega
        have h4 : 18 ≤ op := by omega
        go_wp2_with fail
        go_meet
        case rel => exact ⟨congrArg Value.bool hd.symm, hb5⟩
      · have hd : decide (DrainP op) = false := decide_eq_false (by unfold DrainP; omega)
        have h3 : ¬ op ≤ 21 := by omega
        have h4 : 18 ≤ op := by omega
        have h5 : ¬ op ≤ 25 := by omega
        have h6 : 23 ≤ op := by omega
        go_wp2_with fail
        go_meet
        case rel => exact ⟨congrArg Value.bool hd.symm, hb5⟩
    case rest =>
      obtain ⟨rfl, hb7⟩ := hcut
      have ht7 := ht.step hb7
      clear hb5 ht5
      go_wp2_with (first
        | (go_at_call 17; refine (cJumps _ ht7).mono ?_; rintro e wn ⟨rfl, hbn⟩; replace hb7 := step_below hb7 hbn; replace ht7 := ht.step hb7)
        | (go_at_call 19; refine (cAsks _ ht7).mono ?_; rintro e wn ⟨rfl, hbn⟩; replace hb7 := step_below hb7 hbn; replace ht7 := ht.step hb7)
        | (go_at_call 20; refine (cDrains _).mono ?_; rintro e wn ⟨rfl, hbn⟩; replace hb7 := step_below hb7 hbn; replace ht7 := ht.step hb7)
        | (go_at_call 18; (first | with_reducible refine (cHasT _).mono ?_ | with_reducible refine (cHasM _).mono ?_); rintro e wn ⟨rfl, hbn⟩; replace hb7 := step_below hb7 hbn; replace ht7 := ht.step hb7))
      go_ret
      exact ⟨rfl, hb7⟩
end Go.Proofs.YtlmhifnanhkcnaaDoor
