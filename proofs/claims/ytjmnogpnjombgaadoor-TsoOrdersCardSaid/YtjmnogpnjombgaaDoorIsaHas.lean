/- The document's Has. -/
import Derived.Test.YtjmnogpnjombgaaDoorIsaName
namespace Go.Proofs.YtjmnogpnjombgaaDoor
open Go.ChangeShapes Go.WideShapes Go.ChangeAt Go.RowKit
set_option linter.unusedVariables false
set_option maxRecDepth 100000

theorem has_out (op c : Int) (h : op < 0 ∨ 28 ≤ op) (w : World) :
    Calls Tryd.prog 35 #[.int .i64 op, .int .u8 c] w fun e w' => e = .returned (.bool false) ∧ Below w.heap.size w w' := by
  go_enter Tryd.func35, Tryd.ntmps35
  go_wp2_with fail
  refine (refName_out op h _).mono ?_
  rintro e w1 ⟨rfl, hB⟩
  go_wp2
  go_loopw [7] (fun v wr => v = .int .i64 0 ∧ wr = w1) (fun v _ => 0)
  case atStart => exact ⟨rfl, rfl⟩
  case round =>
    obtain ⟨rfl, rfl⟩ := hrel
    go_wp2
    go_ret
    exact ⟨rfl, hB⟩

theorem any_lt {l : List UInt8} {c : Int} (h : ∀ k, k < l.length → ((l.getD k 0).toNat : Int) ≠ c) : l.any (fun b => decide ((b.toNat : Int) = c)) = false := by
  rw [List.any_eq_false]
  intro x hx
  obtain ⟨k, hk, rfl⟩ := List.getElem_of_mem hx
  have := h k hk
  rw [List.getD, List.getElem?_eq_getElem hk] at this
  simpa using this

theorem any_at {l : List UInt8} {c : Int} (k : Nat) (hk : k < l.length) (h : ((l.getD k 0).toNat : Int) = c) : l.any (fun b => decide ((b.toNat : Int) = c)) = true := by
  rw [List.any_eq_true]
  rw [List.getD, List.getElem?_eq_getElem hk] at h
  exact ⟨l[k], List.getElem_mem hk, by simpa using h⟩

theorem has_in (i : Nat) (c : Int) (hi : i < 28) (w : World) :
    Calls Tryd.prog 35 #[.int .i64 (i : Int), .int .u8 c] w fun e w' => e = .returned (.bool (hasF i c)) ∧ Below w.heap.size w w' := by
  obtain ⟨_, _, _, _, _, _, _, _, t9⟩ := tab_at i hi
  obtain ⟨r, hr⟩ : ∃ r, hasF i c = r := ⟨_, rfl⟩
  rw [hr]
  unfold hasF at hr
  go_enter Tryd.func35, Tryd.ntmps35
  go_wp2_with fail
  refine (refName_in i hi _).mono ?_
  rintro e w1 ⟨rfl, hB⟩
  have hS : ∀ k, (hk : k < (flS i).size) → (((flS i)[k]'hk).toNat : Int) = bt (flS i) k := fun k hk => (bt_at _ k hk).symm
  generalize flS i = s at *
  obtain ⟨n, hn⟩ : ∃ n : Nat, s.size = n := ⟨_, rfl⟩
  have hlen : s.data.toList.length = n := by simpa using hn
  have HX := Lib.hid hS
  have HR := Lib.hid (And.intro hr hlen)
  clear hS hr hlen
  go_wp2
  go_loopw [7] (fun v wr => ∃ k : Nat, k ≤ n ∧ v = .int .i64 k ∧ wr = w1 ∧ ∀ j, j < k → bt s j ≠ c) (fun v _ => n - (intOf v).toNat)
  case atStart => exact ⟨0, Nat.zero_le _, rfl, rfl, fun j hj => absurd hj (by omega)⟩
  case round =>
    obtain ⟨k, hk, rfl, rfl, hno⟩ := hrel
    by_cases hkn : k < n
    · have hx := HX.out k (by omega)
      have hk0 : (k : Int) < (n : Int) := by omega
      have hk1 : (k : Int) < (s.size : Int) := by omega
      have hk2 : k < s.size := by omega
      by_cases hc : bt s k = c
      · have hc' := hc
        rw [← hx] at hc'
        have hr1 : r = true := HR.out.1.symm.trans (any_at k (by have := HR.out.2; omega) hc)
        subst hr1
        clear hx hc
        go_wp2
        go_ret
        exact ⟨rfl, hB⟩
      · have hc' := hc
        rw [← hx] at hc'
        clear hx
        go_wp2
        go_roundw
        case rel => exact ⟨k + 1, by omega, by go_num, (by trivial), fun j hj => by
          rcases (by omega : j < k ∨ j = k) with h | rfl
          · exact hno j h
          · exact hc⟩
        case measure => simp [intOf]; omega
    · have hk0 : ¬ (k : Int) < (n : Int) := by omega
      have hr1 : r = false := HR.out.1.symm.trans (any_lt (fun j hj => hno j (by have := HR.out.2; omega)))
      subst hr1
      go_wp2
      go_ret
      exact ⟨rfl, hB⟩
end Go.Proofs.YtjmnogpnjombgaaDoor
