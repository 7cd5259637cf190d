/- A machine's moves with boxes beside it: new blocks that the machine does not own. -/
import Derived.Test.YtjmnogpnjombgaaDoorMPick
import Derived.Test.YtjmnogpnjombgaaDoorRowT
namespace Go.Proofs.YtjmnogpnjombgaaDoor
open Go.ChangeShapes Go.WideShapes Go.ChangeAt Go.RowKit Go.Deep
set_option linter.unusedVariables false
set_option maxRecDepth 100000
set_option linter.unusedSimpArgs false

/-- A box: where it lies, of which type, what it holds. -/
structure Bx where
  g : Nat
  t : TypeId
  cs : Array Value
/-- What has been done: the machine is in state s, the boxes hold what they hold, all else is as it was. -/
def MovesX (L : Lay) (B : MB) (s : Mst) (own : Nat → Prop) (W Wc : World) (X : List Bx) : Prop :=
  ∃ own1, MInv L B s own1 Wc ∧ (∀ i, own1 i → own i ∨ W.heap.size ≤ i) ∧ KeepOut own W Wc ∧ ∀ x ∈ X, Blk Wc x.g x.t x.cs ∧ ¬ own1 x.g ∧ W.heap.size ≤ x.g
section
variable {L : Lay} {B : MB} {s s' : Mst} {own : Nat → Prop} {W Wc Wd : World} {X : List Bx} {x : Bx}
theorem MInv.lt (h : MInv L B s own W) : ∀ i, own i → i < W.heap.size := fun i hi => by obtain ⟨V, bcs, h⟩ := h; exact (h.lo i hi).2
theorem MInv.lo (h : MInv L B s own W) : ∀ i, own i → 2 ≤ i := fun i hi => by obtain ⟨V, bcs, h⟩ := h; exact (h.lo i hi).1
theorem MovesX.start (h : MInv L B s own W) : MovesX L B s own W W [] := ⟨own, h, fun i hi => .inl hi, KeepOut.refl _ _, fun x hx => by cases hx⟩
theorem MovesX.moves (h : MovesX L B s own W Wc X) : Moves (MInv L B) s own W Wc := by
  obtain ⟨own1, h1, h2, h3, _⟩ := h
  exact ⟨own1, h1, h2, h3⟩
theorem MovesX.blk (h : MovesX L B s own W Wc (x :: X)) : Blk Wc x.g x.t x.cs := by
  obtain ⟨own1, h1, h2, h3, h4⟩ := h
  exact (h4 x (by simp)).1
theorem MovesX.tail (h : MovesX L B s own W Wc (x :: X)) : MovesX L B s own W Wc X := by
  obtain ⟨own1, h1, h2, h3, h4⟩ := h
  exact ⟨own1, h1, h2, h3, fun y hy => h4 y (by simp [hy])⟩
theorem MovesX.swap {y : Bx} (h : MovesX L B s own W Wc (x :: y :: X)) : MovesX L B s own W Wc (y :: x :: X) := by
  obtain ⟨own1, h1, h2, h3, h4⟩ := h
  exact ⟨own1, h1, h2, h3, fun z hz => h4 z (by simp at hz ⊢; rcases hz with h | h | h <;> simp [h])⟩
theorem MovesX.below (h : MovesX L B s own W Wc X) (k : Below Wc.heap.size Wc Wd) : MovesX L B s own W Wd X := by
  obtain ⟨own1, h1, h2, h3, h4⟩ := h
  exact ⟨own1, h1.below k, h2, h3.trans (KeepOut.of_below k) (fun i hi => .inl hi : ∀ i, own i → own i ∨ W.heap.size ≤ i), fun y hy => ⟨(h4 y hy).1.below k (h4 y hy).1.lt, (h4 y hy).2⟩⟩
theorem MovesX.drewN (h : MovesX L B s own W Wc X) (q : Nat) : MovesX L B s own W (Wc.drewN q) X := h.below ⟨rfl, rfl, rfl, Nat.le_refl _, fun _ _ => rfl⟩
theorem MovesX.drew (h : MovesX L B s own W Wc X) : MovesX L B s own W Wc.drew X := h.drewN 1
theorem MovesX.alloc (h : MovesX L B s own W Wc X) (t : TypeId) (cs : Array Value) : MovesX L B s own W (Wc.alloc (.cells cs t)) (⟨Wc.heap.size, t, cs⟩ :: X) := by
  have hal := (Below.refl Wc.heap.size Wc).alloc (Nat.le_refl _) (.cells cs t)
  obtain ⟨own1, h1, h2, h3, h4⟩ := h.below hal
  obtain ⟨own0, g1, g2, g3, g4⟩ := h
  refine ⟨own0, g1.below hal, g2, h3, fun y hy => ?_⟩
  rcases List.mem_cons.1 hy with rfl | hy
  · exact ⟨Blk.new Wc t cs, fun e => by have := g1.lt _ e; exact Nat.lt_irrefl _ this, g3.size⟩
  · exact ⟨(g4 y hy).1.below hal (g4 y hy).1.lt, (g4 y hy).2⟩
/-- A call that moves the machine. -/
theorem MovesX.call (h : MovesX L B s own W Wc X) {f : FuncId} {args : Array Value} {R : Ending → Prop} (k : ∀ own1, MInv L B s own1 Wc → Calls Tryd.prog f args Wc fun e W' => R e ∧ Moves (MInv L B) s' own1 Wc W') :
    Calls Tryd.prog f args Wc fun e W' => R e ∧ MovesX L B s' own W W' X := by
  obtain ⟨own1, h1, h2, h3, h4⟩ := h
  refine (k own1 h1).mono fun e W' ⟨he, hm⟩ => ⟨he, ?_⟩
  obtain ⟨own2, k1, k2, k3⟩ := hm
  refine ⟨own2, k1, fun j hj => ?_, h3.trans k3 h2, fun y hy => ⟨k3.blk (h4 y hy).1 (h4 y hy).2.1, fun e => ?_, (h4 y hy).2.2⟩⟩
  · rcases k2 j hj with h | h
    · exact h2 j h
    · exact .inr (Nat.le_trans h3.size h)
  · rcases k2 _ e with q | q
    · exact (h4 y hy).2.1 q
    · have := (h4 y hy).1.lt; omega
/-- A call that makes memory alone. -/
theorem MovesX.callB (h : MovesX L B s own W Wc X) {f : FuncId} {args : Array Value} {R : Ending → World → Prop} (k : Calls Tryd.prog f args Wc fun e W' => R e W' ∧ Below Wc.heap.size Wc W') :
    Calls Tryd.prog f args Wc fun e W' => R e W' ∧ MovesX L B s own W W' X := k.mono fun e W' ⟨he, hb⟩ => ⟨he, h.below hb⟩
/-- The machine moves by itself. -/
theorem MovesX.bind (h : MovesX L B s own W Wc X) (k : ∀ own1, MInv L B s own1 Wc → Moves (MInv L B) s' own1 Wc Wd) : MovesX L B s' own W Wd X := by
  obtain ⟨own1, h1, h2, h3, h4⟩ := h
  obtain ⟨own2, k1, k2, k3⟩ := k own1 h1
  refine ⟨own2, k1, fun j hj => ?_, h3.trans k3 h2, fun y hy => ⟨k3.blk (h4 y hy).1 (h4 y hy).2.1, fun e => ?_, (h4 y hy).2.2⟩⟩
  · rcases k2 j hj with h | h
    · exact h2 j h
    · exact .inr (Nat.le_trans h3.size h)
  · rcases k2 _ e with q | q
    · exact (h4 y hy).2.1 q
    · have := (h4 y hy).1.lt; omega
/-- A box is written. -/
theorem MovesX.put (h : MovesX L B s own W Wc (x :: X)) {cs : Array Value} (hd : ∀ y ∈ X, y.g ≠ x.g) (hb : Blk Wd x.g x.t cs) (hg : Wc.grownBy Wd (some x.g)) : MovesX L B s own W Wd (⟨x.g, x.t, cs⟩ :: X) := by
  obtain ⟨own1, h1, h2, h3, h4⟩ := h
  obtain ⟨b0, n0, l0⟩ := h4 x (by simp)
  refine ⟨own1, MInv.keep _ _ _ _ _ _ h1 ⟨fun i hi => hg.block i (h1.lt i hi) (fun e => n0 (by rw [← Option.some.inj e]; exact hi)), hg.size⟩, h2, h3.grown hg l0, fun y hy => ?_⟩
  rcases List.mem_cons.1 hy with rfl | hy
  · exact ⟨hb, n0, l0⟩
  · obtain ⟨b1, n1, l1⟩ := h4 y (by simp [hy])
    exact ⟨b1.grown hg (fun e => hd y hy (Option.some.inj e)), n1, l1⟩
theorem MovesX.tab (h : MovesX L B s own W Wc X) (hlo : ∀ i, own i → 2 ≤ i) (hT : Tab W) : Tab Wc := by
  obtain ⟨_, _, _, h3, _⟩ := h
  have hc : ∀ (g j : Nat), g < 2 → Wc.cell? ⟨g, j, none⟩ = W.cell? ⟨g, j, none⟩ := fun g j hg => by
    have := h3.block g (Nat.lt_of_lt_of_le hg hT.1) (fun e => by have := hlo g e; omega)
    simp only [World.cell?, this]
  exact ⟨Nat.le_trans hT.1 h3.size, fun j hj => (hc _ j (by decide)).trans (hT.2.1 j hj), fun j hj => (hc _ j (by decide)).trans (hT.2.2 j hj)⟩
theorem MovesX.size (h : MovesX L B s own W Wc X) : W.heap.size ≤ Wc.heap.size := by
  obtain ⟨_, _, _, h3, _⟩ := h
  exact h3.size
theorem MovesX.parts (h : MovesX L B s own W Wc X) : ∃ own1 V bcs, MParts L B s own1 Wc V bcs := by
  obtain ⟨own1, ⟨V, bcs, h1⟩, _⟩ := h
  exact ⟨own1, V, bcs, h1⟩
end
end Go.Proofs.YtjmnogpnjombgaaDoor
