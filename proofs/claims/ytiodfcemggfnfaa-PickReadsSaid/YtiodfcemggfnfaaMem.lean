/- Words for memory: a slice that came in ('Sl'), a block of the call's own that is known whole ('Blk'). -/
import Derived.Test.YtiodfcemggfnfaaBase
import Derived.Deep.Slices
import Derived.Deep.OwnRows
import Derived.Laws.MakeOwn
namespace Go.Proofs.Ytiodfcemggfnfaa
open Go.ChangeShapes Go.WideShapes Go.ChangeAt Go.RowKit

/-- The slice address A leads to n cells, cell i holding 'C i', in old memory (below the heap's end). -/
def Sl (W : World) (A : Option Addr) (n : Nat) (C : Nat → Value) : Prop :=
  0 < n → ∃ b off, A = some ⟨b, off, none⟩ ∧ b < W.heap.size ∧ ∀ i, i < n → W.cell? ⟨b, off + i, none⟩ = some (C i)
theorem Sl.below {W w1 : World} {A : Option Addr} {n : Nat} {C : Nat → Value} (h : Sl W A n C) {B : Nat} (hB : W.heap.size ≤ B) (hb : Below B W w1) : Sl w1 A n C := fun hn => by
  obtain ⟨b, off, rfl, hlt, hc⟩ := h hn
  exact ⟨b, off, rfl, Nat.lt_of_lt_of_le hlt hb.size, fun i hi => (hb.cell (p := ⟨b, _, none⟩) (Nat.lt_of_lt_of_le hlt hB)).trans (hc i hi)⟩
theorem Sl.congr {W : World} {A : Option Addr} {n : Nat} {C D : Nat → Value} (h : Sl W A n C) (e : ∀ i, i < n → C i = D i) : Sl W A n D := fun hn => by
  obtain ⟨b, off, rfl, hlt, hc⟩ := h hn
  exact ⟨b, off, rfl, hlt, fun i hi => by rw [hc i hi, e i hi]⟩
theorem Sl.nil {W : World} {A : Option Addr} {C : Nat → Value} : Sl W A 0 C := fun h => absurd h (by omega)

/-- Block g is just the cells cs, of element type t, none frozen. -/
def Blk (w : World) (g : Nat) (t : TypeId) (cs : Array Value) : Prop := w.heap[g]? = some (.cells cs t (0, 0))
section
variable {w w' : World} {g : Nat} {t : TypeId} {cs : Array Value}
theorem Blk.lt (h : Blk w g t cs) : g < w.heap.size := by
  rcases Nat.lt_or_ge g w.heap.size with hlt | hge
  · exact hlt
  · unfold Blk at h; rw [Array.getElem?_eq_none hge] at h; cases h
theorem Blk.cell (h : Blk w g t cs) (i : Nat) : w.cell? ⟨g, i, none⟩ = cs[i]? := cell_of_row w g i cs t (0, 0) h
theorem Blk.frozen (h : Blk w g t cs) (i : Nat) : w.frozen? ⟨g, i, none⟩ = false := by
  unfold Blk at h
  simp [World.frozen?, h]
theorem Blk.new (w : World) (t : TypeId) (cs : Array Value) : Blk (w.alloc (.cells cs t)) w.heap.size t cs := heap_alloc_new w _
theorem Blk.drew (h : Blk w g t cs) : Blk w.drew g t cs := h
theorem Blk.alloc (h : Blk w g t cs) (o : Obj) : Blk (w.alloc o) g t cs := (Below.heap_alloc w o g h.lt).trans h
theorem Blk.set_ (h : Blk w g t cs) (i : Nat) (u : Value) : Blk (w.setCell ⟨g, i, none⟩ u) g t (cs.setIfInBounds i u) := by
  unfold Blk at h ⊢
  simp [World.setCell, Array.getElem?_modify, h]
theorem Blk.far (h : Blk w g t cs) {p : Addr} (hp : g ≠ p.block) (u : Value) : Blk (w.setCell p u) g t cs := (Below.heap_setCell w p u g hp).trans h
theorem Blk.below {B : Nat} (h : Blk w g t cs) (hb : Below B w w') (hg : g < B) : Blk w' g t cs := (hb.block g hg).trans h
theorem Blk.grown {row : Option Nat} (h : Blk w g t cs) (hb : w.grownBy w' row) (hg : some g ≠ row) : Blk w' g t cs := (hb.block g h.lt hg).trans h
end

section
variable {H : Type} {enc : TypeId × Value → H} {P : Program} {W : World}
/-- An argument that is a slice of integers, opened: nil, empty or not. -/
theorem open_sl_ints {t e : TypeId} {k : IntKind} {v : Value} {d : DataW H} {p : List MemPlace} {base : Nat} (ht : P.underlying t = some (.slice e)) (he : P.underlying e = some (.int k)) (hc : P.cellsOf e = 1)
    (hval : Value.okWide P W .any base t v) (h : DataW.Trod enc P W 0 (fun _ => true) true t v d p) (hlt : ∀ x ∈ p, x.block < W.heap.size) :
    ∃ (A : Option Addr) (len cap : Nat) (Z : Nat → Int), v = .slice A len cap ∧ len ≤ cap ∧ cap ≤ maxLen ∧ Sl W A len (fun i => .int k (Z i)) ∧ (∀ i, i < len → (Lit.int k (Z i)).wf = true) := by
  obtain ⟨a0, len, cap, rfl⟩ := okWide_slice ht hval
  obtain ⟨fuel, hf⟩ := h
  rcases open_ints ht he hc hf with ⟨hcs, hx⟩ | ⟨a, len', cap', zs, hcs, _, hl, hm, hz, hx, hcell, hwz⟩
  · simp [Value.cells] at hcs
    obtain ⟨rfl, rfl, rfl⟩ := hcs
    exact ⟨none, 0, 0, fun _ => 0, rfl, Nat.le_refl _, Nat.zero_le _, Sl.nil, fun i hi => absurd hi (by omega)⟩
  · simp [Value.cells] at hcs
    obtain ⟨rfl, rfl, rfl⟩ := hcs
    simp only [Prod.mk.injEq] at hx
    obtain ⟨rfl, rfl⟩ := hx
    simp only [if_true] at hz
    refine ⟨some a, len, cap, fun i => zs.getD i 0, rfl, hl, hm, fun hn => ?_, fun i hi => hwz _ ?_⟩
    · obtain ⟨b, off, spot⟩ := a
      have hspot : spot = none := by simpa [Addr.add] using World.cell?_spot (hcell 0 (by omega))
      subst hspot
      have hbW : b < W.heap.size := hlt (.cell b off) (MemPlace.mem_row.2 ⟨0, by omega, by simp⟩)
      exact ⟨b, off, rfl, hbW, fun j hj => by rw [← add_plain]; exact hcell j (by omega)⟩
    · have : i < zs.length := by omega
      simp [List.getD, List.getElem?_eq_getElem this]
end
end Go.Proofs.Ytiodfcemggfnfaa
