/- isa.Jumps, Asks, Drains at any op; alu.Do at any op (for seats without isa.Number). -/
import Derived.Test.YtjmnogpnjombgaaDoorIsaChk
import Derived.Deep.RegionHeld3
import Derived.Laws.EntriesVeiled
namespace Go.Proofs.YtjmnogpnjombgaaDoor
open Go.ChangeShapes Go.WideShapes Go.ChangeAt Go.RowKit
set_option linter.unusedVariables false
set_option maxRecDepth 100000

theorem jumps_in (i : Nat) (hi : i < 28) (w : World) (ht : Tab w) :
    Calls Tryd.prog 53 #[.int .i64 (i : Int)] w fun e w' => e = .returned (.bool (hasF i 84)) ∧ Below w.heap.size w w' := by
  obtain ⟨e1, e10, e8, e4, e32, e16, enm⟩ := use_at i hi
  obtain ⟨r, hr⟩ : ∃ r, hasF i 84 = r := ⟨_, rfl⟩
  rw [hr] at e32 ⊢
  have h28 : (i : Int) < 28 := by omega
  have h28' : ¬ (28 : Int) ≤ i := by omega
  have h0 : ¬ (i : Int) < 0 := by omega
  go_enter Tryd.func53, Tryd.ntmps53
  go_wp2_with fail
  refine (name_in i hi _ ht).mono ?_
  rintro e w1 ⟨rfl, hb1⟩
  have hc := (ht.step hb1).2.1 i hi
  generalize useN i = u at *
  cases r
  · go_wp2
    go_ret
    exact ⟨by simp, hb1⟩
  · go_wp2
    go_ret
    exact ⟨by simp, hb1⟩

theorem jumps_out (op : Int) (h : op < 0 ∨ 28 ≤ op) (w : World) :
    Calls Tryd.prog 53 #[.int .i64 op] w fun e w' => e = .returned (.bool false) ∧ Below w.heap.size w w' := by
  go_enter Tryd.func53, Tryd.ntmps53
  go_wp2_with fail
  refine (name_out op h _).mono ?_
  rintro e w1 ⟨rfl, hb1⟩
  go_wp2
  go_ret
  exact ⟨rfl, hb1⟩

theorem asks_in (i : Nat) (hi : i < 28) (w : World) (ht : Tab w) :
    Calls Tryd.prog 50 #[.int .i64 (i : Int)] w fun e w' => e = .returned (.bool (hasF i 77)) ∧ Below w.heap.size w w' := by
  obtain ⟨e1, e10, e8, e4, e32, e16, enm⟩ := use_at i hi
  obtain ⟨r, hr⟩ : ∃ r, hasF i 77 = r := ⟨_, rfl⟩
  rw [hr] at e8 ⊢
  have h28 : (i : Int) < 28 := by omega
  have h28' : ¬ (28 : Int) ≤ i := by omega
  have h0 : ¬ (i : Int) < 0 := by omega
  go_enter Tryd.func50, Tryd.ntmps50
  go_wp2_with fail
  refine (name_in i hi _ ht).mono ?_
  rintro e w1 ⟨rfl, hb1⟩
  have hc := (ht.step hb1).2.1 i hi
  generalize useN i = u at *
  cases r
  · go_wp2
    go_ret
    exact ⟨by simp, hb1⟩
  · go_wp2
    go_ret
    exact ⟨by simp, hb1⟩

theorem asks_out (op : Int) (h : op < 0 ∨ 28 ≤ op) (w : World) :
    Calls Tryd.prog 50 #[.int .i64 op] w fun e w' => e = .returned (.bool false) ∧ Below w.heap.size w w' := by
  go_enter Tryd.func50, Tryd.ntmps50
  go_wp2_with fail
  refine (name_out op h _).mono ?_
  rintro e w1 ⟨rfl, hb1⟩
  go_wp2
  go_ret
  exact ⟨rfl, hb1⟩

def DrainP (op : Int) : Prop := 18 ≤ op ∧ op ≤ 21 ∨ 23 ≤ op ∧ op ≤ 25
instance (op : Int) : Decidable (DrainP op) := by unfold DrainP; infer_instance

theorem drains_v (op : Int) (w : World) :
    Calls Tryd.prog 52 #[.int .i64 op] w fun e w' => e = .returned (.bool (decide (DrainP op))) ∧ Below w.heap.size w w' := by
  go_enter Tryd.func52, Tryd.ntmps52
  by_cases h18 : op = 18
  · subst h18; go_wp2; go_ret; exact ⟨rfl, Below.refl _ _⟩
  by_cases h19 : op = 19
  · subst h19; go_wp2; go_ret; exact ⟨rfl, Below.refl _ _⟩
  by_cases h20 : op = 20
  · subst h20; go_wp2; go_ret; exact ⟨rfl, Below.refl _ _⟩
  by_cases h21 : op = 21
  · subst h21; go_wp2; go_ret; exact ⟨rfl, Below.refl _ _⟩
  by_cases h23 : op = 23
  · subst h23; go_wp2; go_ret; exact ⟨rfl, Below.refl _ _⟩
  by_cases h24 : op = 24
  · subst h24; go_wp2; go_ret; exact ⟨rfl, Below.refl _ _⟩
  by_cases h25 : op = 25
  · subst h25; go_wp2; go_ret; exact ⟨rfl, Below.refl _ _⟩
  have hd : decide (DrainP op) = false := decide_eq_false (by unfold DrainP; omega)
  rw [hd]
  go_wp2
  go_ret
  exact ⟨rfl, Below.refl _ _⟩
def jmpB (op : Int) : Bool := decide (op = 13 ∨ op = 14 ∨ op = 15)
theorem jmpB_all : (List.range 28).all (fun i => hasF i 84 == jmpB (i : Int)) = true := by decide +kernel
theorem jumps_any (op : Int) (w : World) (ht : Tab w) : Calls Tryd.prog 53 #[.int .i64 op] w fun e w' => e = .returned (.bool (jmpB op)) ∧ Below w.heap.size w w' := by
  by_cases h : 0 ≤ op ∧ op < 28
  · obtain ⟨i, rfl⟩ : ∃ i : Nat, op = (i : Int) := ⟨op.toNat, by omega⟩
    have hi : i < 28 := by omega
    have := List.all_eq_true.1 jmpB_all i (List.mem_range.2 hi)
    rw [← eq_of_beq this]
    exact jumps_in i hi w ht
  · have hj : jmpB op = false := decide_eq_false (by omega)
    rw [hj]
    exact jumps_out op (by omega) w

def askB (op : Int) : Bool := decide ((16 ≤ op ∧ op ≤ 17) ∨ (19 ≤ op ∧ op ≤ 21) ∨ (23 ≤ op ∧ op ≤ 24))
theorem askB_all : (List.range 28).all (fun i => hasF i 77 == askB (i : Int)) = true := by decide +kernel
theorem asks_any (op : Int) (w : World) (ht : Tab w) : Calls Tryd.prog 50 #[.int .i64 op] w fun e w' => e = .returned (.bool (askB op)) ∧ Below w.heap.size w w' := by
  by_cases h : 0 ≤ op ∧ op < 28
  · obtain ⟨i, rfl⟩ : ∃ i : Nat, op = (i : Int) := ⟨op.toNat, by omega⟩
    have hi : i < 28 := by omega
    have := List.all_eq_true.1 askB_all i (List.mem_range.2 hi)
    rw [← eq_of_beq this]
    exact asks_in i hi w ht
  · have hj : askB op = false := decide_eq_false (by omega)
    rw [hj]
    exact asks_out op (by omega) w
end Go.Proofs.YtjmnogpnjombgaaDoor
