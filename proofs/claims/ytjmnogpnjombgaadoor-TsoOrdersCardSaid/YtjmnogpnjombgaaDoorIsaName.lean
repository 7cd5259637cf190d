/- isa.Name, and the document's Name and Has. -/
import Derived.Test.YtjmnogpnjombgaaDoorIsaTab
import Derived.Deep.DeepCutAuto
import Derived.Deep.DeepMust
import Derived.Deep.RegionHeld3
import Derived.Deep.QuietTactic
namespace Go.Proofs.YtjmnogpnjombgaaDoor
open Go.ChangeShapes Go.WideShapes Go.ChangeAt Go.RowKit
set_option linter.unusedVariables false
set_option maxRecDepth 100000

theorem name_in (i : Nat) (hi : i < 28) (w : World) (ht : Tab w) :
    Calls Tryd.prog 101 #[.int .i64 (i : Int)] w fun e w' => e = .returned (.string (nmS i)) ∧ Below w.heap.size w w' := by
  have h0 : ¬ ((i : Int) < 0) := by omega
  have h1 : ¬ ((28 : Int) ≤ (i : Int)) := by omega
  have hc := ht.2.2 i hi
  go_enter Tryd.func101, Tryd.ntmps101
  go_wp2
  go_ret
  exact ⟨rfl, Below.refl _ _⟩

theorem name_out (op : Int) (h : op < 0 ∨ 28 ≤ op) (w : World) :
    Calls Tryd.prog 101 #[.int .i64 op] w fun e w' => e = .returned (.string ⟨#[]⟩) ∧ Below w.heap.size w w' := by
  go_enter Tryd.func101, Tryd.ntmps101
  rcases h with h | h
  · go_wp2
    go_ret
    exact ⟨rfl, Below.refl _ _⟩
  · have h0 : ¬ op < 0 := by omega
    go_wp2
    go_ret
    exact ⟨rfl, Below.refl _ _⟩

def RowsAt (v : Value) (w : World) : Prop := ∃ g, v = .slice (some ⟨g, 0, none⟩) 28 28 ∧ ∀ i, i < 28 → w.cell? ⟨g, i, none⟩ = some (.string (rowS i))

theorem rows_at (w : World) : RowsAt (.slice (some ⟨w.heap.size, 0, none⟩) 28 28) (w.alloc (.cells (rowL.map Value.string).toArray 9)) :=
  ⟨_, rfl, fun i hi => by
    have h := (Blk.new w 9 (rowL.map Value.string).toArray).cell i
    rw [h]
    unfold rowS
    have hl : rowL.length = 28 := by decide
    simp [List.getElem?_map, List.getD_eq_getElem?_getD, List.getElem?_eq_getElem (show i < rowL.length by omega)]⟩

theorem refName_out (op : Int) (h : op < 0 ∨ 28 ≤ op) (w : World) :
    Calls Tryd.prog 89 #[.int .i64 op] w fun e w' => e = .returned (.tuple #[.string ⟨#[]⟩, .string ⟨#[]⟩]) ∧ Below w.heap.size w w' := by
  go_enter Tryd.func89, Tryd.ntmps89
  go_upto_region 1 with fail
  go_cut [4] (fun s wx => RowsAt s wx ∧ Below w.heap.size w wx)
  case first =>
    go_wp2_with fail
    go_meet
    case rel => exact ⟨rows_at w, (Below.refl w.heap.size w).alloc (Nat.le_refl _) _⟩
  case rest =>
    obtain ⟨⟨g, rfl, hc⟩, hB⟩ := hcut
    rcases h with h | h
    · go_wp2
      go_ret2
      exact ⟨rfl, hB⟩
    · have h0 : ¬ op < 0 := by omega
      go_wp2
      go_ret2
      exact ⟨rfl, hB⟩

theorem bt_at (s : ByteArray) (i : Nat) (hi : i < s.size) : bt s i = ((s[i]'hi).toNat : Int) := by
  have h' : i < s.data.toList.length := by simpa using hi
  unfold bt
  rw [List.getD, List.getElem?_eq_getElem h']
  simp
  rfl

theorem refName_in (i : Nat) (hi : i < 28) (w : World) :
    Calls Tryd.prog 89 #[.int .i64 (i : Int)] w fun e w' => e = .returned (.tuple #[.string (nmS i), .string (flS i)]) ∧ Below w.heap.size w w' := by
  have h0 : ¬ ((i : Int) < 0) := by omega
  have h1 : ¬ ((28 : Int) ≤ (i : Int)) := by omega
  have h2 : (i : Int) < 28 := by omega
  obtain ⟨t1, t2, t3, t4, t5, t6, t7, t8, t9⟩ := tab_at i hi
  go_enter Tryd.func89, Tryd.ntmps89
  go_upto_region 1 with fail
  go_cut [4] (fun s wx => RowsAt s wx ∧ Below w.heap.size w wx)
  case first =>
    go_wp2_with fail
    go_meet
    case rel => exact ⟨rows_at w, (Below.refl w.heap.size w).alloc (Nat.le_refl _) _⟩
  case rest =>
    obtain ⟨⟨g, rfl, hc⟩, hB⟩ := hcut
    have hci := hc i hi
    clear hc
    have hS : ∀ k, (hk : k < (rowS i).size) → (((rowS i)[k]'hk).toNat : Int) = bt (rowS i) k := fun k hk => (bt_at _ k hk).symm
    obtain ⟨p, hp⟩ : ∃ p, spAt i = p := ⟨_, rfl⟩
    rw [hp] at t1 t2 t3 t4 t5 t6
    generalize rowS i = s at *
    obtain ⟨n, hn⟩ : ∃ n : Nat, s.size = n := ⟨_, rfl⟩
    have HS := Lib.hid (And.intro t2 (And.intro t3 (And.intro t4 (And.intro t5 t6))))
    have HX := Lib.hid hS
    clear t2 t3 t4 t5 t6 hS hp
    go_wp2
    go_loopw [6] (fun v wr => ∃ k : Nat, k ≤ p ∧ v = .int .i64 k ∧ ∃ q, wr = wc.drewN q) (fun v _ => p - (intOf v).toNat)
    case atStart => exact ⟨0, Nat.zero_le _, rfl, 0, rfl⟩
    case round =>
      obtain ⟨k, hk, rfl, q, rfl⟩ := hrel
      by_cases hkp : k < p
      · have hx := HX.out k (by omega)
        have hne := HS.out.1 k hkp
        have hkn : (k : Int) < (n : Int) := by omega
        go_wp2
        go_roundw
        case rel => exact ⟨k + 1, by omega, by go_num, _, rfl⟩
        case measure => simp [intOf]; omega
      · obtain rfl : k = p := by omega
        by_cases hkn : k < n
        · have hx := HX.out k (by omega)
          have h32 : bt s k = 32 := HS.out.2.1.resolve_left (by omega)
          have hk0 : (0 : Int) ≤ (k : Int) := by omega
          have hk1 : (k : Int) < (n : Int) := by omega
          have hk2 : (k : Int) ≤ (n : Int) := by omega
          have hk3 : (0 : Int) ≤ (k : Int) + 1 := by omega
          have hk4 : (k : Int) + 1 ≤ (n : Int) := by omega
          have hk5 : (k : Int) + 1 ≤ (s.size : Int) := by omega
          have hk6 : (k : Int) < (s.size : Int) := by omega
          have hk7 : k + 1 ≤ s.size := by omega
          have hk8 : k < s.size := by omega
          have hk9 : (k : Int) + 1 ≤ 9223372036854775807 := by omega
          go_wp2
          go_region
          go_wp2
          go_ret2
          have e1 := HS.out.2.2.1
          have e2 := HS.out.2.2.2.1
          rw [hn] at e2
          refine ⟨?_, ⟨hB.os, hB.tape, hB.output, hB.size, hB.block⟩⟩
          show Ending.returned (.tuple #[.string (s.extract 0 k), .string (s.extract (k + 1) n)]) = _
          rw [e1, e2]
        · have hkn' : ¬ (k : Int) < (n : Int) := by omega
          go_wp2
          go_ret2
          have hkk : k = s.size := by omega
          have e1 := HS.out.2.2.1
          rw [hkk] at e1
          have e2 : s = nmS i := by simpa using e1
          refine ⟨?_, ⟨hB.os, hB.tape, hB.output, hB.size, hB.block⟩⟩
          show Ending.returned (.tuple #[.string s, .string ⟨#[]⟩]) = _
          rw [HS.out.2.2.2.2 hkk, ← e2]
end Go.Proofs.YtjmnogpnjombgaaDoor
