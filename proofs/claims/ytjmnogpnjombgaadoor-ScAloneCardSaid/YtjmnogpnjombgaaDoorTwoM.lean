/- Two machines beside each other in memory. -/
import Derived.Test.YtjmnogpnjombgaaDoorTsA4
namespace Go.Proofs.YtjmnogpnjombgaaDoor
open Go.ChangeShapes Go.WideShapes Go.ChangeAt Go.RowKit Go.Deep
set_option linter.unusedVariables false
set_option maxRecDepth 100000
set_option linter.unusedSimpArgs false

/-- Two machines, neither of which owns what the other owns, both behind the block N. -/
structure TwoM (L1 L2 : Lay) (C B : MB) (s u : Mst) (N : Nat) (w W : World) : Prop where
  ex : ∃ oa ob, MInv L1 C s oa W ∧ MInv L2 B u ob W ∧ (∀ i, oa i → ob i → False) ∧ (∀ i, oa i → N ≤ i) ∧ ∀ i, ob i → N ≤ i
  bel : Below N w W
  sz : N ≤ W.heap.size
section
variable {L1 L2 : Lay} {C B : MB} {s s' u u' : Mst} {N : Nat} {w W W' : World}
theorem TwoM.swap (h : TwoM L1 L2 C B s u N w W) : TwoM L2 L1 B C u s N w W := by
  obtain ⟨oa, ob, h1, h2, h3, h4, h5⟩ := h.ex
  exact ⟨⟨ob, oa, h2, h1, fun i a b => h3 i b a, h5, h4⟩, h.bel, h.sz⟩
theorem TwoM.below (h : TwoM L1 L2 C B s u N w W) (hb : Below W.heap.size W W') : TwoM L1 L2 C B s u N w W' := by
  obtain ⟨oa, ob, h1, h2, h3, h4, h5⟩ := h.ex
  exact ⟨⟨oa, ob, h1.below hb, h2.below hb, h3, h4, h5⟩, h.bel.trans (hb.mono h.sz), Nat.le_trans h.sz hb.size⟩
/-- The first of them moves. -/
theorem TwoM.calls (h : TwoM L1 L2 C B s u N w W) {f : FuncId} {args : Array Value} {R : Ending → Prop} (hc : ∀ oa, MInv L1 C s oa W → (∀ i, oa i → N ≤ i) → Calls Tryd.prog f args W fun e W' => R e ∧ Moves (MInv L1 C) s' oa W W') :
    Calls Tryd.prog f args W fun e W' => R e ∧ TwoM L1 L2 C B s' u N w W' := by
  obtain ⟨oa, ob, h1, h2, h3, h4, h5⟩ := h.ex
  refine (hc oa h1 h4).mono fun e W' ⟨hR, oa', k1, k2, k3⟩ => ⟨hR, ⟨oa', ob, k1, MInv.keep L2 B u ob W W' h2 ⟨fun i hi => k3.block i (h2.lt i hi) (fun q => h3 i q hi), k3.size⟩, fun i a b => ?_, fun i a => ?_, h5⟩, ?_, Nat.le_trans h.sz k3.size⟩
  · rcases k2 i a with q | q
    · exact h3 i q b
    · have := h2.lt i b
      omega
  · rcases k2 i a with q | q
    · exact h4 i q
    · exact Nat.le_trans h.sz q
  · exact ⟨k3.os.trans h.bel.os, k3.tape.trans h.bel.tape, k3.output.trans h.bel.output, Nat.le_trans h.bel.size k3.size, fun i hi => (k3.block i (Nat.lt_of_lt_of_le hi h.sz) (fun e => by have := h4 i e; omega)).trans (h.bel.block i hi)⟩
/-- The first of them tells. -/
theorem TwoM.tells (h : TwoM L1 L2 C B s u N w W) {f : FuncId} {args : Array Value} {R : Ending → World → Prop} (hc : ∀ oa, MInv L1 C s oa W → Calls Tryd.prog f args W fun e W' => R e W' ∧ Below W.heap.size W W') :
    Calls Tryd.prog f args W fun e W' => R e W' ∧ Below W.heap.size W W' := by
  obtain ⟨oa, ob, h1, h2, h3, h4, h5⟩ := h.ex
  exact hc oa h1
/-- Two machines, made one behind the other. -/
theorem TwoM.make {W1 W2 V W3 : World} (h1 : MInv L1 C s (fun i => W1.heap.size ≤ i ∧ i < W2.heap.size) W2) (h2 : MInv L2 B u (fun i => V.heap.size ≤ i ∧ i < W3.heap.size) W3) (hv : W2.heap.size ≤ V.heap.size) (hb : Below W2.heap.size W2 W3) (hB : Below N w W3) (hN : N ≤ W1.heap.size) (hs : W1.heap.size ≤ W2.heap.size) : TwoM L1 L2 C B s u N w W3 :=
  ⟨⟨_, _, h1.below hb, h2, fun i a b => by have := a.2; have := b.1; omega, fun i a => Nat.le_trans hN a.1, fun i a => Nat.le_trans hN (Nat.le_trans hs (Nat.le_trans hv a.1))⟩, hB, Nat.le_trans hN (Nat.le_trans hs hb.size)⟩
end
end Go.Proofs.YtjmnogpnjombgaaDoor
