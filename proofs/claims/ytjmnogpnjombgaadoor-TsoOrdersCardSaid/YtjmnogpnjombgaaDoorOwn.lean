/- Rows that a call owns, element by element. -/
import Derived.Test.YtjmnogpnjombgaaDoorAppend
import Derived.Test.YtjmnogpnjombgaaDoorOpen0
namespace Go.Proofs.YtjmnogpnjombgaaDoor
open Go.ChangeShapes Go.WideShapes Go.ChangeAt Go.RowKit Go.Deep
set_option linter.unusedVariables false
set_option maxRecDepth 100000

theorem flat_get {α : Type} (f : α → List Value) (s : Nat) (hf : ∀ a, (f a).length = s) (d : α) : ∀ (l : List α) (i : Nat), i < l.length → ∀ j, j < s → (l.flatMap f)[i * s + j]? = (f (l.getD i d))[j]?
  | [], i, hi, _, _ => absurd hi (by simp)
  | a :: l, 0, _, j, hj => by
    rw [List.flatMap_cons, Nat.zero_mul, Nat.zero_add, List.getElem?_append_left (by rw [hf]; exact hj)]
    rfl
  | a :: l, i + 1, hi, j, hj => by
    rw [List.flatMap_cons, List.getElem?_append_right (by rw [hf]; exact Nat.le_trans (Nat.le_mul_of_pos_left s (by omega)) (Nat.le_add_right _ _)), hf, show (i + 1) * s + j - s = i * s + j by rw [Nat.add_mul]; omega]
    exact flat_get f s hf d l i (by simpa using hi) j hj
theorem flat_len {α : Type} (f : α → List Value) (s : Nat) (hf : ∀ a, (f a).length = s) : ∀ l : List α, (l.flatMap f).length = l.length * s
  | [] => by simp
  | a :: l => by rw [List.flatMap_cons, List.length_append, hf, flat_len f s hf l, List.length_cons, Nat.add_mul]; omega

section
variable {w w' : World} {base : Nat} {e : TypeId} {size n : Nat} {v : Value} {xs : List Value}
theorem own_ge (h : w.ownsRow base e size v n xs) : ∀ r, v.ownBlock = some r → base ≤ r := by
  intro r hr
  rcases h.2 with ⟨rfl, _⟩ | ⟨g, cap, cur, rfl, hg, _⟩
  · cases hr
  · obtain rfl := Option.some.inj hr
    exact hg
/-- A block below the base stays when the row grows. -/
theorem Blk.grow_own {g : Nat} {t : TypeId} {cs : Array Value} (hb : Blk w g t cs) (h : w.ownsRow base e size v n xs) (hg : w.grownBy w' v.ownBlock) (hlt : g < base) : Blk w' g t cs :=
  hb.grown hg (fun e => by have := own_ge h g e.symm; omega)
theorem below_own {w0 : World} {B : Nat} (hb : Below B w0 w) (h : w.ownsRow base e size v n xs) (hg : w.grownBy w' v.ownBlock) (hB : B ≤ base) (hB0 : B ≤ w0.heap.size) : Below B w0 w' :=
  hb.grown hg (Nat.le_trans hB0 hb.size) (fun k hk => by have := own_ge h k hk; omega)
/-- An owned row of elements of 'size' cells each is a slice of them. -/
theorem own_sle {α : Type} (f : α → List Value) (hf : ∀ a, (f a).length = size) (d : α) (l : List α) (h : w.ownsRow base e size v l.length (l.flatMap f)) :
    ∃ A cap, v = .slice A l.length cap ∧ l.length ≤ cap ∧ SlE w A l.length size (fun i => f (l.getD i d)) := by
  obtain ⟨A, cap, rfl, hc, hs⟩ := own_sl h
  refine ⟨A, cap, rfl, hc, fun hpos => ?_⟩
  by_cases hz : size = 0
  · subst hz
    rcases h.2 with ⟨hv, _⟩ | ⟨g, cap', cur, hv, hg, hh, _⟩
    · injection hv with hv1 hv2
      omega
    · injection hv with hv1 _
      refine ⟨g, 0, hv1, ?_, fun i hi j u hu => ?_⟩
      · rcases Nat.lt_or_ge g w.heap.size with hlt | hge
        · exact hlt
        · rw [Array.getElem?_eq_none hge] at hh; cases hh
      · have := (List.getElem?_eq_some_iff.1 hu).1
        rw [hf] at this
        omega
  · obtain ⟨b, off, rfl, hlt, hcc⟩ := hs (Nat.mul_pos hpos (by omega))
    refine ⟨b, off, rfl, hlt, fun i hi j u hu => ?_⟩
    have hj : j < size := by
      have := (List.getElem?_eq_some_iff.1 hu).1
      rwa [hf] at this
    have hij : i * size + j < l.length * size := by
      have : (i + 1) * size ≤ l.length * size := Nat.mul_le_mul_right _ hi
      rw [Nat.add_mul] at this
      omega
    rw [Nat.add_assoc, hcc _ hij]
    have := flat_get f size hf d l i hi j hj
    rw [hu] at this
    simp only [List.getD_eq_getElem?_getD, this]
    rfl
end
/-- A new block as a slice of one element. -/
theorem sl_new (w : World) (t : TypeId) (cs : List Value) : Sl (w.alloc (.cells cs.toArray t)) (some ⟨w.heap.size, 0, none⟩) cs.length (fun i => cs.getD i undef) := fun hpos =>
  ⟨w.heap.size, 0, rfl, (Blk.new w t cs.toArray).lt, fun i hi => by
    rw [Nat.zero_add, (Blk.new w t cs.toArray).cell]
    simp [List.getD_eq_getElem?_getD, List.getElem?_eq_getElem hi]⟩
theorem range_getD (cs : List Value) (n : Nat) (h : cs.length = n) : (List.range n).map (fun i => cs.getD i undef) = cs := by
  subst h
  apply List.ext_getElem
  · simp
  · intro i h1 h2
    simp [List.getD_eq_getElem?_getD, List.getElem?_eq_getElem h2]
end Go.Proofs.YtjmnogpnjombgaaDoor
