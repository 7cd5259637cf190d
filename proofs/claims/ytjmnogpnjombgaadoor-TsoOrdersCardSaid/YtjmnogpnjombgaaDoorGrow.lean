/- Rows that a call owns and blocks that grow: which stay. (For seats that hold no Code* text.) -/
import Derived.Test.YtjmnogpnjombgaaDoorOwn
import Derived.Test.YtjmnogpnjombgaaDoorRow
namespace Go.Proofs.YtjmnogpnjombgaaDoor
open Go.ChangeShapes Go.WideShapes Go.ChangeAt Go.RowKit Go.Deep
set_option linter.unusedVariables false
set_option maxRecDepth 100000

section
variable {w w' : World} {base : Nat} {e : TypeId} {size n : Nat} {v : Value} {xs : List Value}
theorem own_grown {r : Nat} (h : w.ownsRow base e size v n xs) (hg : w.grownBy w' (some r)) (hr : r < base) : w'.ownsRow base e size v n xs := by
  obtain ⟨h1, h2⟩ := h
  refine ⟨h1, ?_⟩
  rcases h2 with h2 | ⟨g, cap, cur, hv, hgb, hh, q⟩
  · exact .inl h2
  · have hlt : g < w.heap.size := by
      rcases Nat.lt_or_ge g w.heap.size with hlt | hge
      · exact hlt
      · rw [Array.getElem?_eq_none hge] at hh; cases hh
    refine .inr ⟨g, cap, cur, hv, hgb, (hg.block g hlt (fun e => ?_)).trans hh, q⟩
    have := Option.some.inj e
    omega
theorem grown_newer {a b c : World} {row g : Option Nat} (h : a.grownBy b row) (k : b.grownBy c g) (hg : ∀ i, g = some i → a.heap.size ≤ i) : a.grownBy c row :=
  ⟨k.os.trans h.os, k.tape.trans h.tape, k.output.trans h.output, Nat.le_trans h.size k.size, fun i hi hne => (k.block i (Nat.lt_of_lt_of_le hi h.size) (fun e => by have := hg i e.symm; omega)).trans (h.block i hi hne)⟩
theorem grown_alloc {a b : World} {row : Option Nat} (h : a.grownBy b row) (o : Obj) : a.grownBy (b.alloc o) row :=
  have hB := (Below.refl b.heap.size b).alloc (Nat.le_refl _) o
  ⟨hB.os.trans h.os, hB.tape.trans h.tape, hB.output.trans h.output, Nat.le_trans h.size hB.size, fun i hi hne => (hB.block i (Nat.lt_of_lt_of_le hi h.size)).trans (h.block i hi hne)⟩
end
theorem set_only {w : World} {g j : Nat} (u : Value) : w.grownBy (w.setCell ⟨g, j, none⟩ u) (some g) :=
  ⟨rfl, rfl, rfl, by simp [World.setCell], fun i hi hne => Below.heap_setCell w ⟨g, j, none⟩ u i (fun e => hne (by rw [e]))⟩
theorem grown_new {a b : World} {row : Option Nat} {g j : Nat} (h : a.grownBy b row) (hg : a.heap.size ≤ g) (u : Value) : a.grownBy (b.setCell ⟨g, j, none⟩ u) row :=
  ⟨h.os, h.tape, h.output, by simpa [World.setCell] using h.size, fun i hi hne => (Below.heap_setCell b ⟨g, j, none⟩ u i (by intro e; simp only at e; omega)).trans (h.block i hi hne)⟩
theorem grown_trans' {a b c : World} {row : Option Nat} (h : a.grownBy b row) (k : b.grownBy c row) : a.grownBy c row :=
  ⟨k.os.trans h.os, k.tape.trans h.tape, k.output.trans h.output, Nat.le_trans h.size k.size, fun i hi hne => (k.block i (Nat.lt_of_lt_of_le hi h.size) hne).trans (h.block i hi hne)⟩

theorem own_apart {w w' : World} {base base' : Nat} {e e' : TypeId} {size n size' n' : Nat} {v v' : Value} {xs xs' : List Value} (h : w.ownsRow base e size v n xs) (h' : w.ownsRow base' e' size' v' n' xs') (hne : e ≠ e')
    (hg : w.grownBy w' v'.ownBlock) : w'.ownsRow base e size v n xs := by
  obtain ⟨h1, h2⟩ := h
  refine ⟨h1, ?_⟩
  rcases h2 with h2 | ⟨g, cap, cur, hv, hgb, hh, q⟩
  · exact .inl h2
  · have hlt : g < w.heap.size := by
      rcases Nat.lt_or_ge g w.heap.size with hlt | hge
      · exact hlt
      · rw [Array.getElem?_eq_none hge] at hh; cases hh
    refine .inr ⟨g, cap, cur, hv, hgb, (hg.block g hlt (fun e0 => ?_)).trans hh, q⟩
    rcases h'.2 with ⟨rfl, _⟩ | ⟨g', cap', cur', rfl, _, hh', _⟩
    · cases e0
    · obtain rfl : g = g' := Option.some.inj e0
      rw [hh] at hh'
      have := Option.some.inj hh'
      injection this with _ e1 _
      exact hne e1
theorem getD_snoc {α : Type} (l : List α) (x d : α) (t : Nat) (ht : t < (l ++ [x]).length) : (t < l.length ∧ (l ++ [x]).getD t d = l.getD t d) ∨ (t = l.length ∧ (l ++ [x]).getD t d = x) := by
  rw [List.length_append] at ht
  rcases Nat.lt_or_ge t l.length with h | h
  · exact .inl ⟨h, by simp [List.getD_eq_getElem?_getD, List.getElem?_append_left h]⟩
  · obtain rfl : t = l.length := by simp at ht; omega
    exact .inr ⟨rfl, by simp [List.getD_eq_getElem?_getD]⟩
theorem own_cap {w : World} {base : Nat} {e : TypeId} {size n : Nat} {v : Value} {xs : List Value} (h : w.ownsRow base e size v n xs) : ∃ A cap, v = .slice A n cap ∧ n ≤ cap ∧ cap ≤ maxLen := by
  rcases h.2 with ⟨rfl, rfl⟩ | ⟨g, cap, cur, rfl, _, _, h1, h2, _⟩
  · exact ⟨none, 0, rfl, Nat.le_refl _, Nat.zero_le _⟩
  · exact ⟨_, _, rfl, h1, h2⟩
theorem getD_mem {α : Type} {l : List α} {d : α} {i : Nat} (h : i < l.length) : l.getD i d ∈ l := by
  simp [List.getD_eq_getElem?_getD, List.getElem?_eq_getElem h]
theorem sl_new2 (w : World) (A : Obj) (t : TypeId) (cs : List Value) : Sl ((w.alloc A).alloc (.cells cs.toArray t)) (some ⟨w.heap.size + 1, 0, none⟩) cs.length (fun i => cs.getD i undef) := by
  have := sl_new (w.alloc A) t cs
  rwa [show (w.alloc A).heap.size = w.heap.size + 1 by simp] at this
end Go.Proofs.YtjmnogpnjombgaaDoor
