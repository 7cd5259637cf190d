/- What is learned of an even script's row. -/
import Derived.Test.YtiodfcemggfnfaaEven
import Derived.Test.YtiodfcemggfnfaaPickRead
import Derived.Test.YtiodfcemggfnfaaPlayFair
namespace Go.Proofs.Ytiodfcemggfnfaa
open Go.ChangeShapes Go.WideShapes Go.ChangeAt Go.RowKit Go.Deep
set_option linter.unusedVariables false
set_option linter.unusedSimpArgs false

/-- A row of picks, read. -/
theorem own_picks {w : World} {base n : Nat} {v : Value} {L : List Pk} (h : w.ownsRow base 23 2 v n (L.flatMap pkc)) (hn : L.length = n) : ∃ A cap, v = .slice A n cap ∧ n ≤ cap ∧ SlE w A n 2 (fun i => pkc (L.getD i (0, 0))) := by
  subst hn
  obtain ⟨A, cap, h1, h2, h3⟩ := own_sle pkc (fun _ => rfl) (0, 0) L h
  exact ⟨A, cap, h1, h2, h3⟩
theorem picks_cells {w : World} {A : Option Addr} {n : Nat} {L : List Pk} (h : SlE w A n 2 (fun i => pkc (L.getD i (0, 0)))) : Sl w A (n * 2) (pickCells (lk L) (lv L)) := fun hp => by
  obtain ⟨b, off, rfl, hb, hc⟩ := h (by omega)
  refine ⟨b, off, rfl, hb, fun i hi => ?_⟩
  unfold pickCells lk lv
  by_cases h2 : i % 2 = 0
  · have := hc (i / 2) (by omega) 0 _ rfl
    rw [show off + i / 2 * 2 + 0 = off + i from by omega] at this
    rw [this, if_pos h2]
  · have := hc (i / 2) (by omega) 1 _ rfl
    rw [show off + i / 2 * 2 + 1 = off + i from by omega] at this
    rw [this, if_neg h2]
theorem read_picks {w w' : World} {len : Nat} {cs : Array Value} {Z : Nat → Int} (h : Blk w' w.heap.size 23 cs) (hc : ∀ i, i < len → cs[i * 2]? = some (.int .i64 (Z i / 8 % 3)) ∧ cs[i * 2 + 1]? = some (.int .i64 (Z i % 8))) :
    SlE w' (some ⟨w.heap.size, 0, none⟩) len 2 (fun i => pkc (Z i / 8 % 3, Z i % 8)) := fun _ =>
  ⟨w.heap.size, 0, rfl, h.lt, fun i hi j u hu => by
    have hj : j < 2 := (List.getElem?_eq_some_iff.1 hu).1
    obtain ⟨h0, h1⟩ := hc i hi
    rw [Nat.zero_add, h.cell]
    rcases (by omega : j = 0 ∨ j = 1) with rfl | rfl
    · rw [Nat.add_zero, h0]; exact hu
    · rw [h1]; exact hu⟩
end Go.Proofs.Ytiodfcemggfnfaa
