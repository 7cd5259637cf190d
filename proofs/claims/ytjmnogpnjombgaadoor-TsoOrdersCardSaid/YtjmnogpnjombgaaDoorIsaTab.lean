/- The tables of layer 2, as lists; what the two tables of package isa hold, and that it stays. -/
import Derived.Test.YtjmnogpnjombgaaDoorMem
import Derived.Lib.LaidTab
import Derived.Deep.DeepHandedRow
namespace Go.Proofs.YtjmnogpnjombgaaDoor
open Go.ChangeShapes Go.WideShapes Go.ChangeAt Go.RowKit
set_option linter.unusedVariables false
set_option maxRecDepth 100000

def rowL : List ByteArray := [⟨#[104, 97, 108, 116]⟩, ⟨#[115, 101, 116, 32, 65, 75]⟩, ⟨#[109, 111, 118, 101, 32, 65, 66]⟩, ⟨#[97, 100, 100, 32, 65, 66, 67]⟩, ⟨#[115, 117, 98, 32, 65, 66, 67]⟩, ⟨#[109, 117, 108, 32, 65, 66, 67]⟩, ⟨#[97, 110, 100, 32, 65, 66, 67]⟩, ⟨#[111, 114, 32, 65, 66, 67]⟩, ⟨#[120, 111, 114, 32, 65, 66, 67]⟩, ⟨#[115, 104, 108, 32, 65, 66, 67]⟩, ⟨#[115, 104, 114, 32, 65, 66, 67]⟩, ⟨#[108, 101, 115, 115, 32, 65, 66, 67]⟩, ⟨#[115, 97, 109, 101, 32, 65, 66, 67]⟩, ⟨#[106, 117, 109, 112, 32, 84]⟩, ⟨#[122, 101, 114, 111, 32, 65, 84]⟩, ⟨#[115, 111, 109, 101, 32, 65, 84]⟩, ⟨#[108, 111, 97, 100, 32, 65, 77, 75]⟩, ⟨#[115, 116, 111, 114, 101, 32, 65, 77, 75]⟩, ⟨#[102, 101, 110, 99, 101]⟩, ⟨#[115, 119, 97, 112, 32, 65, 77, 75]⟩, ⟨#[102, 101, 116, 99, 104, 32, 65, 77, 75]⟩, ⟨#[99, 97, 115, 32, 65, 67, 77, 75]⟩, ⟨#[111, 117, 116, 32, 65]⟩, ⟨#[119, 97, 105, 116, 32, 65, 77, 75]⟩, ⟨#[119, 97, 107, 101, 32, 65, 77, 75]⟩, ⟨#[114, 101, 109, 111, 116, 101]⟩, ⟨#[121, 105, 101, 108, 100]⟩, ⟨#[109, 97, 114, 107, 32, 65, 75]⟩]
def nmL : List ByteArray := [⟨#[104, 97, 108, 116]⟩, ⟨#[115, 101, 116]⟩, ⟨#[109, 111, 118, 101]⟩, ⟨#[97, 100, 100]⟩, ⟨#[115, 117, 98]⟩, ⟨#[109, 117, 108]⟩, ⟨#[97, 110, 100]⟩, ⟨#[111, 114]⟩, ⟨#[120, 111, 114]⟩, ⟨#[115, 104, 108]⟩, ⟨#[115, 104, 114]⟩, ⟨#[108, 101, 115, 115]⟩, ⟨#[115, 97, 109, 101]⟩, ⟨#[106, 117, 109, 112]⟩, ⟨#[122, 101, 114, 111]⟩, ⟨#[115, 111, 109, 101]⟩, ⟨#[108, 111, 97, 100]⟩, ⟨#[115, 116, 111, 114, 101]⟩, ⟨#[102, 101, 110, 99, 101]⟩, ⟨#[115, 119, 97, 112]⟩, ⟨#[102, 101, 116, 99, 104]⟩, ⟨#[99, 97, 115]⟩, ⟨#[111, 117, 116]⟩, ⟨#[119, 97, 105, 116]⟩, ⟨#[119, 97, 107, 101]⟩, ⟨#[114, 101, 109, 111, 116, 101]⟩, ⟨#[121, 105, 101, 108, 100]⟩, ⟨#[109, 97, 114, 107]⟩]
def flL : List ByteArray := [⟨#[]⟩, ⟨#[65, 75]⟩, ⟨#[65, 66]⟩, ⟨#[65, 66, 67]⟩, ⟨#[65, 66, 67]⟩, ⟨#[65, 66, 67]⟩, ⟨#[65, 66, 67]⟩, ⟨#[65, 66, 67]⟩, ⟨#[65, 66, 67]⟩, ⟨#[65, 66, 67]⟩, ⟨#[65, 66, 67]⟩, ⟨#[65, 66, 67]⟩, ⟨#[65, 66, 67]⟩, ⟨#[84]⟩, ⟨#[65, 84]⟩, ⟨#[65, 84]⟩, ⟨#[65, 77, 75]⟩, ⟨#[65, 77, 75]⟩, ⟨#[]⟩, ⟨#[65, 77, 75]⟩, ⟨#[65, 77, 75]⟩, ⟨#[65, 67, 77, 75]⟩, ⟨#[65]⟩, ⟨#[65, 77, 75]⟩, ⟨#[65, 77, 75]⟩, ⟨#[]⟩, ⟨#[]⟩, ⟨#[65, 75]⟩]
def useL : List Int := [0, 17, 3, 7, 7, 7, 7, 7, 7, 7, 7, 7, 7, 32, 33, 33, 25, 25, 0, 25, 25, 29, 1, 25, 25, 0, 0, 17]

def rowS (i : Nat) : ByteArray := rowL.getD i ⟨#[]⟩
def nmS (i : Nat) : ByteArray := nmL.getD i ⟨#[]⟩
def flS (i : Nat) : ByteArray := flL.getD i ⟨#[]⟩
def useN (i : Nat) : Int := useL.getD i 0
/-- The byte at a place of a string. -/
def bt (s : ByteArray) (k : Nat) : Int := ((s.data.toList.getD k 0).toNat : Int)
/-- Has the instruction such a field? -/
def hasF (i : Nat) (c : Int) : Bool := (flS i).data.toList.any (fun b => decide ((b.toNat : Int) = c))

theorem idx_str {P : Program} {t : TypeId} (ht : P.underlying t = some .string) (s : ByteArray) (k : IntKind) (i : Nat) (hi : i < s.size) (w : World) :
    (Instr.index t (.string s) (.int k (i : Int))).run P w = .ok (.int .u8 (bt s i)) w := by
  rw [run_index_string w t s k _ ht, dif_pos ⟨by omega, by omega⟩]
  have e : ((i : Int)).toNat = i := by omega
  simp only [e]
  congr 2
  unfold bt
  congr 2
  have h' : i < s.data.toList.length := by simpa using hi
  rw [List.getD, List.getElem?_eq_getElem h']
  simp
  rfl

/-- What the two tables of package isa hold. -/
def Tab (w : World) : Prop := 2 ≤ w.heap.size ∧ (∀ i, i < 28 → w.cell? ⟨0, i, none⟩ = some (.int .i64 (useN i))) ∧ ∀ i, i < 28 → w.cell? ⟨1, i, none⟩ = some (.string (nmS i))
theorem Tab.below {w w1 : World} {B : Nat} (h : Tab w) (hb : Below B w w1) (hB : 2 ≤ B) : Tab w1 :=
  ⟨Nat.le_trans h.1 hb.size, fun i hi => (hb.cell (p := ⟨0, i, none⟩) (Nat.lt_of_lt_of_le (show (0 : Nat) < 2 by decide) hB)).trans (h.2.1 i hi),
    fun i hi => (hb.cell (p := ⟨1, i, none⟩) (Nat.lt_of_lt_of_le (show (1 : Nat) < 2 by decide) hB)).trans (h.2.2 i hi)⟩
theorem Tab.step {w w1 : World} (h : Tab w) (hb : Below w.heap.size w w1) : Tab w1 := h.below hb h.1
theorem Tab.drew {w : World} (h : Tab w) : Tab w.drew := h
theorem Tab.alloc {w : World} (h : Tab w) (o : Obj) : Tab (w.alloc o) := h.step ((Below.refl w.heap.size w).alloc (Nat.le_refl _) o)

/-- Where the name of a row ends. -/
def spAt (i : Nat) : Nat := (nmS i).size
def tabFact (i : Nat) : Bool :=
  decide (spAt i ≤ (rowS i).size) && (List.range (spAt i)).all (fun k => decide (bt (rowS i) k ≠ 32)) && (decide (spAt i = (rowS i).size) || decide (bt (rowS i) (spAt i) = 32)) &&
    ((rowS i).extract 0 (spAt i)).data.toList == (nmS i).data.toList && ((rowS i).extract (spAt i + 1) (rowS i).size).data.toList == (flS i).data.toList && decide (spAt i ≠ (rowS i).size ∨ (flS i).size = 0) && decide ((rowS i).size ≤ 11) && decide (0 < (nmS i).size) && decide ((flS i).size ≤ 4)
theorem tabFacts : (List.range 28).all tabFact = true := by decide +kernel
theorem ba_ext {a b : ByteArray} (h : (a.data.toList == b.data.toList) = true) : a = b := by
  cases a
  cases b
  simp only [beq_iff_eq] at h
  congr
  exact Array.ext' h
theorem tab_at (i : Nat) (hi : i < 28) : spAt i ≤ (rowS i).size ∧ (∀ k, k < spAt i → bt (rowS i) k ≠ 32) ∧ (spAt i = (rowS i).size ∨ bt (rowS i) (spAt i) = 32) ∧ (rowS i).extract 0 (spAt i) = nmS i ∧ (rowS i).extract (spAt i + 1) (rowS i).size = flS i ∧
    (spAt i = (rowS i).size → flS i = ⟨#[]⟩) ∧ (rowS i).size ≤ 11 ∧ 0 < (nmS i).size ∧ (flS i).size ≤ 4 := by
  have h := List.all_eq_true.1 tabFacts i (List.mem_range.2 hi)
  unfold tabFact at h
  simp only [Bool.and_eq_true, Bool.or_eq_true, decide_eq_true_eq, List.all_eq_true, List.mem_range] at h
  obtain ⟨⟨⟨⟨⟨⟨⟨⟨h1, h2⟩, h3⟩, h4⟩, h5⟩, h6⟩, h7⟩, h8⟩, h9⟩ := h
  refine ⟨h1, h2, h3, ba_ext h4, ba_ext h5, fun h => ?_, h7, h8, h9⟩
  have h0 : (flS i).size = 0 := h6.resolve_left (fun h' => h' h)
  exact ByteArray.size_eq_zero_iff.1 h0
end Go.Proofs.YtjmnogpnjombgaaDoor
