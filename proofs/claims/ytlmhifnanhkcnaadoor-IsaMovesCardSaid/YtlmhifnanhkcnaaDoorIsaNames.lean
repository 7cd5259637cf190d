/- IsaNames returns true for every op and every name, in a world that holds the tables. -/
import Derived.Test.YtlmhifnanhkcnaaDoorIsaNum
import Derived.Test.YtlmhifnanhkcnaaDoorIsaAwake
import Derived.Deep.RegionHeld3
namespace Go.Proofs.YtlmhifnanhkcnaaDoor
open Go.ChangeShapes Go.WideShapes Go.ChangeAt Go.RowKit
set_option linter.unusedVariables false

theorem jumps_in (i : Nat) (hi : i < 28) (w : World) (ht : Tab w) :
    Calls Tryd.prog 17 #[.int .i64 (i : Int)] w fun e w' => e = .returned (.bool (hasF i 84)) ∧ Below w.heap.size w w' := by
  obtain ⟨e1, e10, e8, e4, e32, e16, enm⟩ := use_at i hi
  obtain ⟨r, hr⟩ : ∃ r, hasF i 84 = r := ⟨_, rfl⟩
  rw [hr] at e32 ⊢
  have h28 : (i : Int) < 28 := by omega
  have h28' : ¬ (28 : Int) ≤ i := by omega
  have h0 : ¬ (i : Int) < 0 := by omega
  go_enter Tryd.func17, Tryd.ntmps17
  go_wp2_with fail
  refine (name_in i hi _ ht).mono ?_
  rintro e w1 ⟨rfl, hb1⟩
  have hc := (ht.step hb1).2.1 i hi
  generalize useN i = u at *
  cases r
  · go_wp2
    go_ret
    exact ⟨by simp, hb1⟩
  · go_wp2
    go_ret
    exact ⟨by simp, hb1⟩

theorem jumps_out (op : Int) (h : op < 0 ∨ 28 ≤ op) (w : World) :
    Calls Tryd.prog 17 #[.int .i64 op] w fun e w' => e = .returned (.bool false) ∧ Below w.heap.size w w' := by
  go_enter Tryd.func17, Tryd.ntmps17
  go_wp2_with fail
  refine (name_out op h _).mono ?_
  rintro e w1 ⟨rfl, hb1⟩
  go_wp2
  go_ret
  exact ⟨rfl, hb1⟩

theorem asks_in (i : Nat) (hi : i < 28) (w : World) (ht : Tab w) :
    Calls Tryd.prog 19 #[.int .i64 (i : Int)] w fun e w' => e = .returned (.bool (hasF i 77)) ∧ Below w.heap.size w w' := by
  obtain ⟨e1, e10, e8, e4, e32, e16, enm⟩ := use_at i hi
  obtain ⟨r, hr⟩ : ∃ r, hasF i 77 = r := ⟨_, rfl⟩
  rw [hr] at e8 ⊢
  have h28 : (i : Int) < 28 := by omega
  have h28' : ¬ (28 : Int) ≤ i := by omega
  have h0 : ¬ (i : Int) < 0 := by omega
  go_enter Tryd.func19, Tryd.ntmps19
  go_wp2_with fail
  refine (name_in i hi _ ht).mono ?_
  rintro e w1 ⟨rfl, hb1⟩
  have hc := (ht.step hb1).2.1 i hi
  generalize useN i = u at *
  cases r
  · go_wp2
    go_ret
    exact ⟨by simp, hb1⟩
  · go_wp2
    go_ret
    exact ⟨by simp, hb1⟩

theorem asks_out (op : Int) (h : op < 0 ∨ 28 ≤ op) (w : World) :
    Calls Tryd.prog 19 #[.int .i64 op] w fun e w' => e = .returned (.bool false) ∧ Below w.heap.size w w' := by
  go_enter Tryd.func19, Tryd.ntmps19
  go_wp2_with fail
  refine (name_out op h _).mono ?_
  rintro e w1 ⟨rfl, hb1⟩
  go_wp2
  go_ret
  exact ⟨rfl, hb1⟩

def DrainP (op : Int) : Prop := 18 ≤ op ∧ op ≤ 21 ∨ 23 ≤ op ∧ op ≤ 25
instance (op : Int) : Decidable (DrainP op) := by unfold DrainP; infer_instance

theorem drains_v (op : Int) (w : World) :
    Calls Tryd.prog 20 #[.int .i64 op] w fun e w' => e = .returned (.bool (decide (DrainP op))) ∧ Below w.heap.size w w' := by
  go_enter Tryd.func20, Tryd.ntmps20
  by_cases h18 : op = 18
  · subst h18; go_wp2; go_ret; exact ⟨rfl, Below.refl _ _⟩
  by_cases h19 : op = 19
  · subst h19; go_wp2; go_ret; exact ⟨rfl, Below.refl _ _⟩
  by_cases h20 : op = 20
  · subst h20; go_wp2; go_ret; exact ⟨rfl, Below.refl _ _⟩
  by_cases h21 : op = 21
  · subst h21; go_wp2; go_ret; exact ⟨rfl, Below.refl _ _⟩
  by_cases h23 : op = 23
  · subst h23; go_wp2; go_ret; exact ⟨rfl, Below.refl _ _⟩
  by_cases h24 : op = 24
  · subst h24; go_wp2; go_ret; exact ⟨rfl, Below.refl _ _⟩
  by_cases h25 : op = 25
  · subst h25; go_wp2; go_ret; exact ⟨rfl, Below.refl _ _⟩
  have hd : decide (DrainP op) = false := decide_eq_false (by unfold DrainP; omega)
  rw [hd]
  go_wp2
  go_ret
  exact ⟨rfl, Below.refl _ _⟩
end Go.Proofs.YtlmhifnanhkcnaaDoor
