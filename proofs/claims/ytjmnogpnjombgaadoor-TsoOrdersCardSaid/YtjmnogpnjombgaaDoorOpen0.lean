/- Slices opened from their cells (nil, empty or not; slices of slices too); elements that are structs of integers. -/
import Derived.Test.YtjmnogpnjombgaaDoorMem
import Derived.Deep.Fields
import Derived.Deep.Strs
namespace Go.Proofs.YtjmnogpnjombgaaDoor
open Go.ChangeShapes Go.WideShapes Go.ChangeAt Go.RowKit Go.Deep
set_option linter.unusedVariables false
set_option maxRecDepth 100000

theorem keepAt {B : Nat} {W w1 : World} {b o : Nat} {v : Value} (hb : Below B W w1) (hlt : b < B) (h : W.cell? ⟨b, o, none⟩ = some v) : w1.cell? ⟨b, o, none⟩ = some v :=
  (hb.cell (p := ⟨b, o, none⟩) hlt).trans h
theorem Sl.of {W : World} {A : Option Addr} {n : Nat} {C D : Nat → Value} (h : Sl W A n C) (e : ∀ i, i < n → C i = D i) : Sl W A n D := h.congr e
theorem Sl.step {W w1 : World} {A : Option Addr} {n : Nat} {C : Nat → Value} (h : Sl W A n C) (hb : Below W.heap.size W w1) : Sl w1 A n C := h.below (Nat.le_refl _) hb
theorem SlE.step {W w1 : World} {A : Option Addr} {n s : Nat} {E : Nat → List Value} (h : SlE W A n s E) (hb : Below W.heap.size W w1) : SlE w1 A n s E := h.below (Nat.le_refl _) hb

section
variable {H : Type} {enc : TypeId × Value → H} {P : Program} {W : World}
/-- An element that is a struct of integers, one cell each. -/
theorem elem_ints {e : TypeId} {fs : Array Field} (hs : P.underlying e = some (.struct fs)) (hone : oneCellFields P fs = true) (hC : P.cellsOf e = fs.size)
    (kinds : Nat → IntKind) (hk : ∀ (i : Nat) (f : Field), fs[i]? = some f → P.underlying f.type = some (.int (kinds i))) (n : Nat) (cs : List Value) (x : DataW H × List MemPlace)
    (h : DataW.trod enc P W 0 (fun _ => true) true n e cs = some x) : cs.length = fs.size ∧ ∀ i, i < fs.size → ∃ z, cs[i]? = some (.int (kinds i) z) ∧ (Lit.int (kinds i) z).wf = true := by
  obtain ⟨xs, m, _, _, hlen, hxl, hg⟩ := DataW.trod_struct hs h
  have hl : cs.length = fs.size := hlen.trans hC
  refine ⟨hl, fun i hi => ?_⟩
  have hfi : fs[i]? = some fs[i] := Array.getElem?_eq_getElem hi
  obtain ⟨ho, hc1⟩ := hone_of hone i _ hfi
  have hg' : DataW.trod enc P W 0 (fun _ => true) true m fs[i].type ((cs.drop fs[i].offset).take (P.cellsOf fs[i].type)) = xs[i]? := hg i _ hfi
  rw [ho, hc1, take1_drop cs i undef (by omega)] at hg'
  obtain ⟨y, hy⟩ : ∃ y, xs[i]? = some y := ⟨xs[i]'(by omega), List.getElem?_eq_getElem (by omega)⟩
  obtain ⟨k, e, _, hw⟩ := DataW.trod_int (hk i _ hfi) (hg'.trans hy)
  refine ⟨k, ?_, hw⟩
  have e' : cs.getD i undef = .int (kinds i) k := by simpa using e
  rw [← e']
  simp [List.getD_eq_getElem?_getD, List.getElem?_eq_getElem (show i < cs.length by omega)]

/-- A slice's cell, opened element by element. -/
theorem open_slc {α : Type} [Inhabited α] {t e : TypeId} {size : Nat} {fuel : Nat} {cs : List Value} {x : DataW H × List MemPlace} (ht : P.underlying t = some (.slice e)) (hsz : P.cellsOf e = size) (hpos : 0 < size)
    (E : α → List Value) (ok : α → Prop) (helem : ∀ n cs x, DataW.trod enc P W 0 (fun _ => true) true n e cs = some x → ∃ a, cs = E a ∧ ok a)
    (h : DataW.trod enc P W 0 (fun _ => true) true fuel t cs = some x) :
    ∃ (A : Option Addr) (len cap : Nat) (F : Nat → α), cs = [.slice A len cap] ∧ len ≤ cap ∧ cap ≤ maxLen ∧ SlE W A len size (fun i => E (F i)) ∧ ∀ i, i < len → ok (F i) := by
  rcases Go.Deep.open_slice ht h with ⟨rfl, hx⟩ | ⟨a, len, cap, m, n, D, Pl, rfl, _, hl, hm, hmm, hx, hel⟩
  · exact ⟨none, 0, 0, fun _ => default, rfl, Nat.le_refl _, Nat.zero_le _, SlE.nil, fun i hi => absurd hi (by omega)⟩
  · simp only [if_true] at hmm
    have hel2 : ∀ i, i < len → ∃ a', ok a' ∧ (E a').length = size ∧ ∀ j u, (E a')[j]? = some u → W.cell? ((a.add (i * size)).add j) = some u := by
      intro i hi
      obtain ⟨cs', h1, h2⟩ := hel i (by omega)
      rw [hsz] at h1
      obtain ⟨a', rfl, ha⟩ := helem _ _ _ h2
      obtain ⟨_, hlen, hc⟩ := World.cells?_some h1
      refine ⟨a', ha, hlen, fun j u hu => ?_⟩
      have hj : j < size := by rw [← hlen]; exact (List.getElem?_eq_some_iff.1 hu).1
      rw [hc j hj, hu]
    obtain ⟨F, hF⟩ := Go.Deep.choose_lt (p := fun i a' => ok a' ∧ (E a').length = size ∧ ∀ j u, (E a')[j]? = some u → W.cell? ((a.add (i * size)).add j) = some u) hel2
    refine ⟨some a, len, cap, F, rfl, hl, hm, fun hn => ?_, fun i hi => (hF i hi).1⟩
    obtain ⟨b, off, spot⟩ := a
    obtain ⟨u0, hu0⟩ : ∃ u0, (E (F 0))[0]? = some u0 := ⟨_, List.getElem?_eq_getElem (show 0 < (E (F 0)).length by rw [(hF 0 hn).2.1]; exact hpos)⟩
    have h00 := (hF 0 hn).2.2 0 u0 hu0
    have hspot : spot = none := by simpa [Addr.add] using World.cell?_spot h00
    subst hspot
    refine ⟨b, off, rfl, ?_, fun i hi j u hu => ?_⟩
    · rw [add_plain, add_plain] at h00
      exact World.block_lt_of_cell? W _ h00
    · have := (hF i hi).2.2 j u hu
      rw [add_plain, add_plain] at this
      exact this
end

/-- One-cell elements. -/
theorem sl_of_slE {W : World} {A : Option Addr} {n : Nat} {E : Nat → List Value} {C : Nat → Value} (h : SlE W A n 1 E) (e : ∀ i, i < n → E i = [C i]) : Sl W A n C := fun hn => by
  obtain ⟨b, off, rfl, hlt, hc⟩ := h hn
  exact ⟨b, off, rfl, hlt, fun i hi => by
    have := hc i hi 0 (C i) (by rw [e i hi]; rfl)
    simpa using this⟩
end Go.Proofs.YtjmnogpnjombgaaDoor
