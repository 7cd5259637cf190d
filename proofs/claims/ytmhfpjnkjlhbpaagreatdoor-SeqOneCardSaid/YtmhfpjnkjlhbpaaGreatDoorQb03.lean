/- The tables of layer 2, as lists; what the two tables of package isa hold, and that it stays. isa.Name, and the document's Name and Has. The document's Has. isa.Right and the document's Right come to one answer. The document's Right. -/
import Derived.Test.YtmhfpjnkjlhbpaaGreatDoorQb01
import Derived.Lib.LaidTab
import Derived.Deep.DeepHandedRow
import Derived.Deep.DeepCutAuto
import Derived.Deep.DeepMust
import Derived.Deep.RegionHeld3
import Derived.Deep.QuietTactic
namespace Go.Proofs.YtmhfpjnkjlhbpaaGreatDoor
open Go.ChangeShapes Go.WideShapes Go.ChangeAt Go.RowKit
set_option linter.unusedVariables false
set_option maxRecDepth 100000

def rowL : List ByteArray := [⟨#[104, 97, 108, 116]⟩, ⟨#[115, 101, 116, 32, 65, 75]⟩, ⟨#[109, 111, 118, 101, 32, 65, 66]⟩, ⟨#[97, 100, 100, 32, 65, 66, 67]⟩, ⟨#[115, 117, 98, 32, 65, 66, 67]⟩, ⟨#[109, 117, 108, 32, 65, 66, 67]⟩, ⟨#[97, 110, 100, 32, 65, 66, 67]⟩, ⟨#[111, 114, 32, 65, 66, 67]⟩, ⟨#[120, 111, 114, 32, 65, 66, 67]⟩, ⟨#[115, 104, 108, 32, 65, 66, 67]⟩, ⟨#[115, 104, 114, 32, 65, 66, 67]⟩, ⟨#[108, 101, 115, 115, 32, 65, 66, 67]⟩, ⟨#[115, 97, 109, 101, 32, 65, 66, 67]⟩, ⟨#[106, 117, 109, 112, 32, 84]⟩, ⟨#[122, 101, 114, 111, 32, 65, 84]⟩, ⟨#[115, 111, 109, 101, 32, 65, 84]⟩, ⟨#[108, 111, 97, 100, 32, 65, 77, 75]⟩, ⟨#[115, 116, 111, 114, 101, 32, 65, 77, 75]⟩, ⟨#[102, 101, 110, 99, 101]⟩, ⟨#[115, 119, 97, 112, 32, 65, 77, 75]⟩, ⟨#[102, 101, 116, 99, 104, 32, 65, 77, 75]⟩, ⟨#[99, 97, 115, 32, 65, 67, 77, 75]⟩, ⟨#[111, 117, 116, 32, 65]⟩, ⟨#[119, 97, 105, 116, 32, 65, 77, 75]⟩, ⟨#[119, 97, 107, 101, 32, 65, 77, 75]⟩, ⟨#[114, 101, 109, 111, 116, 101]⟩, ⟨#[121, 105, 101, 108, 100]⟩, ⟨#[109, 97, 114, 107, 32, 65, 75]⟩]
def nmL : List ByteArray := [⟨#[104, 97, 108, 116]⟩, ⟨#[115, 101, 116]⟩, ⟨#[109, 111, 118, 101]⟩, ⟨#[97, 100, 100]⟩, ⟨#[115, 117, 98]⟩, ⟨#[109, 117, 108]⟩, ⟨#[97, 110, 100]⟩, ⟨#[111, 114]⟩, ⟨#[120, 111, 114]⟩, ⟨#[115, 104, 108]⟩, ⟨#[115, 104, 114]⟩, ⟨#[108, 101, 115, 115]⟩, ⟨#[115, 97, 109, 101]⟩, ⟨#[106, 117, 109, 112]⟩, ⟨#[122, 101, 114, 111]⟩, ⟨#[115, 111, 109, 101]⟩, ⟨#[108, 111, 97, 100]⟩, ⟨#[115, 116, 111, 114, 101]⟩, ⟨#[102, 101, 110, 99, 101]⟩, ⟨#[115, 119, 97, 112]⟩, ⟨#[102, 101, 116, 99, 104]⟩, ⟨#[99, 97, 115]⟩, ⟨#[111, 117, 116]⟩, ⟨#[119, 97, 105, 116]⟩, ⟨#[119, 97, 107, 101]⟩, ⟨#[114, 101, 109, 111, 116, 101]⟩, ⟨#[121, 105, 101, 108, 100]⟩, ⟨#[109, 97, 114, 107]⟩]
def flL : List ByteArray := [⟨#[]⟩, ⟨#[65, 75]⟩, ⟨#[65, 66]⟩, ⟨#[65, 66, 67]⟩, ⟨#[65, 66, 67]⟩, ⟨#[65, 66, 67]⟩, ⟨#[65, 66, 67]⟩, ⟨#[65, 66, 67]⟩, ⟨#[65, 66, 67]⟩, ⟨#[65, 66, 67]⟩, ⟨#[65, 66, 67]⟩, ⟨#[65, 66, 67]⟩, ⟨#[65, 66, 67]⟩, ⟨#[84]⟩, ⟨#[65, 84]⟩, ⟨#[65, 84]⟩, ⟨#[65, 77, 75]⟩, ⟨#[65, 77, 75]⟩, ⟨#[]⟩, ⟨#[65, 77, 75]⟩, ⟨#[65, 77, 75]⟩, ⟨#[65, 67, 77, 75]⟩, ⟨#[65]⟩, ⟨#[65, 77, 75]⟩, ⟨#[65, 77, 75]⟩, ⟨#[]⟩, ⟨#[]⟩, ⟨#[65, 75]⟩]
def useL : List Int := [0, 17, 3, 7, 7, 7, 7, 7, 7, 7, 7, 7, 7, 32, 33, 33, 25, 25, 0, 25, 25, 29, 1, 25, 25, 0, 0, 17]

def rowS (i : Nat) : ByteArray := rowL.getD i ⟨#[]⟩
def nmS (i : Nat) : ByteArray := nmL.getD i ⟨#[]⟩
def flS (i : Nat) : ByteArray := flL.getD i ⟨#[]⟩
def useN (i : Nat) : Int := useL.getD i 0
def bt (s : ByteArray) (k : Nat) : Int := ((s.data.toList.getD k 0).toNat : Int)
def hasF (i : Nat) (c : Int) : Bool := (flS i).data.toList.any (fun b => decide ((b.toNat : Int) = c))

def Tab (w : World) : Prop := 2 ≤ w.heap.size ∧ (∀ i, i < 28 → w.cell? ⟨0, i, none⟩ = some (.int .i64 (useN i))) ∧ ∀ i, i < 28 → w.cell? ⟨1, i, none⟩ = some (.string (nmS i))
theorem Tab.below {w w1 : World} {B : Nat} (h : Tab w) (hb : Below B w w1) (hB : 2 ≤ B) : Tab w1 :=
  ⟨Nat.le_trans h.1 hb.size, fun i hi => (hb.cell (p := ⟨0, i, none⟩) (Nat.lt_of_lt_of_le (show (0 : Nat) < 2 by decide) hB)).trans (h.2.1 i hi),
    fun i hi => (hb.cell (p := ⟨1, i, none⟩) (Nat.lt_of_lt_of_le (show (1 : Nat) < 2 by decide) hB)).trans (h.2.2 i hi)⟩
theorem Tab.step {w w1 : World} (h : Tab w) (hb : Below w.heap.size w w1) : Tab w1 := h.below hb h.1
theorem Tab.drew {w : World} (h : Tab w) : Tab w.drew := h
theorem Tab.alloc {w : World} (h : Tab w) (o : Obj) : Tab (w.alloc o) := h.step ((Below.refl w.heap.size w).alloc (Nat.le_refl _) o)

def spAt (i : Nat) : Nat := (nmS i).size
def tabFact (i : Nat) : Bool :=
  decide (spAt i ≤ (rowS i).size) && (List.range (spAt i)).all (fun k => decide (bt (rowS i) k ≠ 32)) && (decide (spAt i = (rowS i).size) || decide (bt (rowS i) (spAt i) = 32)) &&
    ((rowS i).extract 0 (spAt i)).data.toList == (nmS i).data.toList && ((rowS i).extract (spAt i + 1) (rowS i).size).data.toList == (flS i).data.toList && decide (spAt i ≠ (rowS i).size ∨ (flS i).size = 0) && decide ((rowS i).size ≤ 11) && decide (0 < (nmS i).size) && decide ((flS i).size ≤ 4)
end Go.Proofs.YtmhfpjnkjlhbpaaGreatDoor
namespace Go.Proofs.YtmhfpjnkjlhbpaaGreatDoor
open Go.ChangeShapes Go.WideShapes Go.ChangeAt Go.RowKit
set_option linter.unusedVariables false
set_option maxRecDepth 100000

theorem name_in (i : Nat) (hi : i < 28) (w : World) (ht : Tab w) :
    Calls Tryz.prog 114 #[.int .i64 (i : Int)] w fun e w' => e = .returned (.string (nmS i)) ∧ Below w.heap.size w w' := by
  have h0 : ¬ ((i : Int) < 0) := by omega
  have h1 : ¬ ((28 : Int) ≤ (i : Int)) := by omega
  have hc := ht.2.2 i hi
  go_enter Tryz.func114, Tryz.ntmps114
  go_wp2
  go_ret
  exact ⟨rfl, Below.refl _ _⟩

theorem name_out (op : Int) (h : op < 0 ∨ 28 ≤ op) (w : World) :
    Calls Tryz.prog 114 #[.int .i64 op] w fun e w' => e = .returned (.string ⟨#[]⟩) ∧ Below w.heap.size w w' := by
  go_enter Tryz.func114, Tryz.ntmps114
  rcases h with h | h
  · go_wp2
    go_ret
    exact ⟨rfl, Below.refl _ _⟩
  · have h0 : ¬ op < 0 := by omega
    go_wp2
    go_ret
    exact ⟨rfl, Below.refl _ _⟩

def RowsAt (v : Value) (w : World) : Prop := ∃ g, v = .slice (some ⟨g, 0, none⟩) 28 28 ∧ ∀ i, i < 28 → w.cell? ⟨g, i, none⟩ = some (.string (rowS i))

end Go.Proofs.YtmhfpjnkjlhbpaaGreatDoor
namespace Go.Proofs.YtmhfpjnkjlhbpaaGreatDoor
open Go.ChangeShapes Go.WideShapes Go.ChangeAt Go.RowKit
set_option linter.unusedVariables false
set_option maxRecDepth 100000

end Go.Proofs.YtmhfpjnkjlhbpaaGreatDoor
namespace Go.Proofs.YtmhfpjnkjlhbpaaGreatDoor
open Go.ChangeShapes Go.WideShapes Go.ChangeAt Go.RowKit
set_option linter.unusedVariables false
set_option maxRecDepth 100000
set_option linter.unusedSimpArgs false

def FieldP (n : Int) (used : Bool) (most : Int) : Prop := if used = true then 0 ≤ n ∧ n ≤ most else n = 0

theorem field_yes (n most : Int) (used : Bool) (w : World) (h : FieldP n used most) :
    Calls Tryz.prog 135 #[.int .i64 n, .bool used, .int .i64 most] w fun e w' => e = .returned (.bool true) ∧ w = w' := by
  go_enter Tryz.func135, Tryz.ntmps135
  unfold FieldP at h
  cases used
  · simp only [Bool.false_eq_true, if_false] at h
    subst h
    go_wp2
    go_ret
    exact ⟨rfl, rfl⟩
  · simp only [if_true] at h
    obtain ⟨h0, h1⟩ := h
    go_wp2
    go_ret
    exact ⟨rfl, rfl⟩

theorem field_no (n most : Int) (used : Bool) (w : World) (h : ¬ FieldP n used most) :
    Calls Tryz.prog 135 #[.int .i64 n, .bool used, .int .i64 most] w fun e w' => e = .returned (.bool false) ∧ w = w' := by
  go_enter Tryz.func135, Tryz.ntmps135
  unfold FieldP at h
  cases used
  · simp only [Bool.false_eq_true, if_false] at h
    go_wp2
    go_ret
    exact ⟨by simp [h], rfl⟩
  · simp only [if_true] at h
    by_cases h0 : 0 ≤ n
    · have h1 : ¬ n ≤ most := fun h2 => h ⟨h0, h2⟩
      clear h
      go_wp2
      go_ret
      exact ⟨rfl, rfl⟩
    · clear h
      go_wp2
      go_ret
      exact ⟨rfl, rfl⟩

instance (n : Int) (u : Bool) (m : Int) : Decidable (FieldP n u m) := by unfold FieldP; infer_instance
def fieldB (n : Int) (used : Bool) (most : Int) : Bool := decide (FieldP n used most)
theorem field_any (n most : Int) (used : Bool) (w : World) :
    Calls Tryz.prog 135 #[.int .i64 n, .bool used, .int .i64 most] w fun e w' => e = .returned (.bool (fieldB n used most)) ∧ w = w' := by
  unfold fieldB
  by_cases h : FieldP n used most
  · rw [decide_eq_true h]
    exact field_yes n most used w h
  · rw [decide_eq_false h]
    exact field_no n most used w h

structure Kind where
  (A B M C T K : Bool)
def kindAt (i : Nat) : Kind := ⟨hasF i 65, hasF i 66, hasF i 77, hasF i 67, hasF i 84, hasF i 75⟩
def useFact (i : Nat) : Bool :=
  (bits .and .i64 (useN i) 1 != 0) == hasF i 65 && (bits .and .i64 (useN i) 10 != 0) == (hasF i 66 || hasF i 77) && (bits .and .i64 (useN i) 8 != 0) == hasF i 77 && (bits .and .i64 (useN i) 4 != 0) == hasF i 67 &&
    (bits .and .i64 (useN i) 32 != 0) == hasF i 84 && (bits .and .i64 (useN i) 16 != 0) == hasF i 75 && (nmS i).toList.isEmpty == false && (nmS i).data.size != 0
theorem useFacts : (List.range 28).all useFact = true := by decide +kernel
theorem use_at (i : Nat) (hi : i < 28) : (bits .and .i64 (useN i) 1 != 0) = hasF i 65 ∧ (bits .and .i64 (useN i) 10 != 0) = (hasF i 66 || hasF i 77) ∧ (bits .and .i64 (useN i) 8 != 0) = hasF i 77 ∧ (bits .and .i64 (useN i) 4 != 0) = hasF i 67 ∧
    (bits .and .i64 (useN i) 32 != 0) = hasF i 84 ∧ (bits .and .i64 (useN i) 16 != 0) = hasF i 75 ∧ (nmS i).toList.isEmpty = false := by
  have h := List.all_eq_true.1 useFacts i (List.mem_range.2 hi)
  unfold useFact at h
  simp only [Bool.and_eq_true, beq_iff_eq] at h
  obtain ⟨⟨⟨⟨⟨⟨⟨h1, h2⟩, h3⟩, h4⟩, h5⟩, h6⟩, h7⟩, h8⟩ := h
  exact ⟨h1, h2, h3, h4, h5, h6, h7⟩

def RightP (q : Kind) (a b c k size : Int) : Prop :=
  FieldP a q.A 7 ∧ FieldP b (q.B || q.M) (if q.M = true then 8 else 7) ∧ FieldP c q.C 7 ∧ (if q.T = true then 0 ≤ size ∧ k ≤ size else q.K = true ∨ k = 0)
instance (q : Kind) (a b c k size : Int) : Decidable (RightP q a b c k size) := by unfold RightP; infer_instance

set_option maxHeartbeats 4000000 in
theorem isaRight_in (i : Nat) (hi : i < 28) (a b c k size : Int) (h0 : 0 ≤ k) (h1 : k ≤ 4294967295) (h2 : -9223372036854775808 ≤ size) (h3 : size ≤ 9223372036854775807) (w : World) (ht : Tab w) :
    Calls Tryz.prog 90 #[.agg #[.int .i64 (i : Int), .int .i64 a, .int .i64 b, .int .i64 c, .int .u32 k], .int .i64 size] w fun e w' => e = .returned (.bool (decide (RightP (kindAt i) a b c k size))) ∧ Below w.heap.size w w' := by
  obtain ⟨e1, e10, e8, e4, e32, e16, enm⟩ := use_at i hi
  obtain ⟨r, hr⟩ : ∃ r, decide (RightP (kindAt i) a b c k size) = r := ⟨_, rfl⟩
  rw [hr]
  unfold kindAt RightP at hr
  obtain ⟨u, hu⟩ : ∃ u, useN i = u := ⟨_, rfl⟩
  rw [hu] at e1 e10 e8 e4 e32 e16
  generalize hasF i 65 = vA at *
  generalize hasF i 66 = vB at *
  generalize hasF i 77 = vM at *
  generalize hasF i 67 = vC at *
  generalize hasF i 84 = vT at *
  generalize hasF i 75 = vK at *
  have hB := (Below.refl w.heap.size w).alloc (Nat.le_refl _) (Obj.cells #[.int .i64 (i : Int), .int .i64 a, .int .i64 b, .int .i64 c, .int .u32 k] 75)
  have hq := Blk.new w 75 #[.int .i64 (i : Int), .int .i64 a, .int .i64 b, .int .i64 c, .int .u32 k]
  go_enter Tryz.func90, Tryz.ntmps90
  go_wp2_with fail
  refine (name_in i hi _ (ht.alloc _)).mono ?_
  rintro e w1 ⟨rfl, hb1⟩
  have hq1 := hq.below hb1 hq.lt
  have hB1 := step_below hB hb1
  have ht1 := (ht.alloc (Obj.cells #[.int .i64 (i : Int), .int .i64 a, .int .i64 b, .int .i64 c, .int .u32 k] 75)).step hb1
  have hc := ht1.2.1 i hi
  have k0 := hq1.cell 0
  have k1 := hq1.cell 1
  have k2 := hq1.cell 2
  have k3 := hq1.cell 3
  have k4 := hq1.cell 4
  simp only [List.getElem?_toArray, List.getElem?_cons_zero, List.getElem?_cons_succ] at k0 k1 k2 k3 k4
  rw [hu] at hc
  clear hq hB hb1 ht ht1 hu hq1
  by_cases fA : fieldB a vA 7 = true
  · by_cases fB : fieldB b (vB || vM) (if vM = true then 8 else 7) = true
    · by_cases fC : fieldB c vC 7 = true
      · simp only [of_decide_eq_true fA, of_decide_eq_true fB, of_decide_eq_true fC, true_and] at hr
        cases vT
        · simp only [Bool.false_eq_true, if_false] at hr
          cases vK
          · by_cases hk : k = 0
            · subst hk
              obtain rfl : r = true := by rw [← hr]; simp
              cases vM <;> simp only [Bool.or_true, Bool.or_false, if_true, Bool.false_eq_true, if_false] at fB e10
              all_goals
                go_wp2_with (first | (go_at_call 135; refine (field_any _ _ _ _).mono ?_; rintro e w' ⟨rfl, rfl⟩))
              all_goals go_ret
              all_goals exact ⟨by first | (simp; done) | (simp; omega), hB1⟩
            · have hk' : (k == 0) = false := by simpa using hk
              obtain rfl : r = false := by rw [← hr]; simp [hk]
              cases vM <;> simp only [Bool.or_true, Bool.or_false, if_true, Bool.false_eq_true, if_false] at fB e10
              all_goals
                go_wp2_with (first | (go_at_call 135; refine (field_any _ _ _ _).mono ?_; rintro e w' ⟨rfl, rfl⟩))
              all_goals go_ret
              all_goals exact ⟨by first | (simp; done) | (simp; omega), hB1⟩
          · obtain rfl : r = true := by rw [← hr]; simp
            cases vM <;> simp only [Bool.or_true, Bool.or_false, if_true, Bool.false_eq_true, if_false] at fB e10
            all_goals
              go_wp2_with (first | (go_at_call 135; refine (field_any _ _ _ _).mono ?_; rintro e w' ⟨rfl, rfl⟩))
            all_goals go_ret
            all_goals exact ⟨by first | (simp; done) | (simp; omega), hB1⟩
        · simp only [if_true] at hr
          by_cases hs : 0 ≤ size
          · by_cases hks : k ≤ size
            · have hk' : True := trivial
              obtain rfl : r = true := by rw [← hr]; simp [hs, hks]
              cases vM <;> simp only [Bool.or_true, Bool.or_false, if_true, Bool.false_eq_true, if_false] at fB e10
              all_goals
                go_wp2_with (first | (go_at_call 135; refine (field_any _ _ _ _).mono ?_; rintro e w' ⟨rfl, rfl⟩))
              all_goals go_ret
              all_goals exact ⟨by first | (simp; done) | (simp; omega), hB1⟩
            · have hk' : True := trivial
              obtain rfl : r = false := by rw [← hr]; simp [hks]
              cases vM <;> simp only [Bool.or_true, Bool.or_false, if_true, Bool.false_eq_true, if_false] at fB e10
              all_goals
                go_wp2_with (first | (go_at_call 135; refine (field_any _ _ _ _).mono ?_; rintro e w' ⟨rfl, rfl⟩))
              all_goals go_ret
              all_goals exact ⟨by first | (simp; done) | (simp; omega), hB1⟩
          · obtain rfl : r = false := by rw [← hr]; simp [hs]
            cases vM <;> simp only [Bool.or_true, Bool.or_false, if_true, Bool.false_eq_true, if_false] at fB e10
            all_goals
              go_wp2_with (first | (go_at_call 135; refine (field_any _ _ _ _).mono ?_; rintro e w' ⟨rfl, rfl⟩))
            all_goals go_ret
            all_goals exact ⟨by first | (simp; done) | (simp; omega), hB1⟩
      · have hr0 : r = false := hr.symm.trans (decide_eq_false (fun h => fC (decide_eq_true h.2.2.1)))
        subst hr0
        cases vM <;> simp only [Bool.or_true, Bool.or_false, if_true, Bool.false_eq_true, if_false] at fB e10
        all_goals
          go_wp2_with (first | (go_at_call 135; refine (field_any _ _ _ _).mono ?_; rintro e w' ⟨rfl, rfl⟩))
        all_goals go_ret
        all_goals exact ⟨rfl, hB1⟩
    · have hr0 : r = false := hr.symm.trans (decide_eq_false (fun h => fB (decide_eq_true h.2.1)))
      subst hr0
      cases vM <;> simp only [Bool.or_true, Bool.or_false, if_true, Bool.false_eq_true, if_false] at fB e10
      all_goals
        go_wp2_with (first | (go_at_call 135; refine (field_any _ _ _ _).mono ?_; rintro e w' ⟨rfl, rfl⟩))
      all_goals go_ret
      all_goals exact ⟨rfl, hB1⟩
  · have hr0 : r = false := hr.symm.trans (decide_eq_false (fun h => fA (decide_eq_true h.1)))
    subst hr0
    cases vM <;> simp only [Bool.or_true, Bool.or_false, if_true, Bool.false_eq_true, if_false] at e10
    all_goals
      go_wp2_with (first | (go_at_call 135; refine (field_any _ _ _ _).mono ?_; rintro e w' ⟨rfl, rfl⟩))
    all_goals go_ret
    all_goals exact ⟨rfl, hB1⟩
end Go.Proofs.YtmhfpjnkjlhbpaaGreatDoor
namespace Go.Proofs.YtmhfpjnkjlhbpaaGreatDoor
open Go.ChangeShapes Go.WideShapes Go.ChangeAt Go.RowKit
set_option linter.unusedVariables false
set_option maxRecDepth 100000
set_option linter.unusedSimpArgs false

theorem isaRight_out (op a b c k size : Int) (h : op < 0 ∨ 28 ≤ op) (w : World) :
    Calls Tryz.prog 90 #[.agg #[.int .i64 op, .int .i64 a, .int .i64 b, .int .i64 c, .int .u32 k], .int .i64 size] w fun e w' => e = .returned (.bool false) ∧ Below w.heap.size w w' := by
  have hB := (Below.refl w.heap.size w).alloc (Nat.le_refl _) (Obj.cells #[.int .i64 op, .int .i64 a, .int .i64 b, .int .i64 c, .int .u32 k] 75)
  go_enter Tryz.func90, Tryz.ntmps90
  go_wp2_with fail
  refine (name_out op h _).mono ?_
  rintro e w1 ⟨rfl, hb1⟩
  have hB1 := step_below hB hb1
  go_wp2
  go_ret
  exact ⟨rfl, hB1⟩


def kinds : List (Bool × Bool × Bool × Bool × Bool × Bool) :=
  [(false, false, false, false, false, false), (false, false, false, false, true, false), (true, false, false, false, false, true), (true, false, false, false, true, false), (true, false, false, false, false, false),
   (true, true, false, false, false, false), (true, true, false, true, false, false), (true, false, true, false, false, true), (true, false, true, true, false, true)]
end Go.Proofs.YtmhfpjnkjlhbpaaGreatDoor
