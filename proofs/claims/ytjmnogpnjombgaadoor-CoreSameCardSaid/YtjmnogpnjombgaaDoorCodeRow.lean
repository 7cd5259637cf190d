/- Rows of instructions: made, appended, read as a code. -/
import Derived.Test.YtjmnogpnjombgaaDoorCoreStep
import Derived.Laws.MakeOwn
namespace Go.Proofs.YtjmnogpnjombgaaDoor
open Go.ChangeShapes Go.WideShapes Go.ChangeAt Go.RowKit Go.Deep
set_option linter.unusedVariables false
set_option maxRecDepth 100000
set_option linter.unusedSimpArgs false

def Cd.list (c : Cd) : List Ins := (List.range c.len).map c.F
theorem Cd.list_len (c : Cd) : c.list.length = c.len := by simp [Cd.list]
theorem Cd.list_get (c : Cd) (i : Nat) (hi : i < c.len) : c.list.getD i ins0 = c.F i := by
  simp [Cd.list, List.getD_eq_getElem?_getD, hi]
theorem ins_len (i : Ins) : i.cells.length = 5 := rfl
theorem Cd.flat {c : Cd} {W : World} (h : c.At W) : Sl W c.A (c.len * 5) (fun i => (c.list.flatMap Ins.cells).getD i undef) := fun hp => by
  obtain ⟨b, off, e, hlt, hc⟩ := h (by omega)
  refine ⟨b, off, e, hlt, fun i hi => ?_⟩
  have h1 := flat_get Ins.cells 5 ins_len ins0 c.list (i / 5) (by rw [c.list_len]; omega) (i % 5) (by omega)
  rw [show i / 5 * 5 + i % 5 = i by omega, c.list_get _ (by omega)] at h1
  obtain ⟨u, hu⟩ : ∃ u, (c.F (i / 5)).cells[i % 5]? = some u := ⟨_, List.getElem?_eq_getElem (by rw [ins_len]; omega)⟩
  have := hc (i / 5) (by omega) (i % 5) u hu
  rw [show off + i / 5 * 5 + i % 5 = off + i by omega] at this
  rw [this]
  show some u = some ((c.list.flatMap Ins.cells).getD i undef)
  rw [List.getD_eq_getElem?_getD, h1, hu]
  rfl
theorem insflat_one (l : List Ins) : ∀ k, k < l.length * 5 → ((l.flatMap Ins.cells).getD k undef).oneCell' = true := fun k hk => by
  have h1 := flat_get Ins.cells 5 ins_len ins0 l (k / 5) (by omega) (k % 5) (by omega)
  rw [show k / 5 * 5 + k % 5 = k by omega] at h1
  rw [List.getD_eq_getElem?_getD, h1]
  rcases (by omega : k % 5 = 0 ∨ k % 5 = 1 ∨ k % 5 = 2 ∨ k % 5 = 3 ∨ k % 5 = 4) with e | e | e | e | e <;> rw [e] <;> rfl
theorem insI_info : (Tryd.prog.info? 54).map (fun i => (i.zero, i.size, i.bytes)) = some (some (.agg #[.int .i64 0, .int .i64 0, .int .i64 0, .int .i64 0, .int .u32 0]), 5, 40) := by kernel_rfl
def insZ (n : Nat) : Array Value := madeCells #[.int .i64 0, .int .i64 0, .int .i64 0, .int .i64 0, .int .u32 0] (n * 5)
theorem insZ_list (n : Nat) : (insZ n).toList = (List.replicate n ins0).flatMap Ins.cells := by
  apply List.ext_getElem?
  intro i
  unfold insZ madeCells
  by_cases hi : i < n * 5
  · have h1 := flat_get Ins.cells 5 ins_len ins0 (List.replicate n ins0) (i / 5) (by simp; omega) (i % 5) (by omega)
    rw [show i / 5 * 5 + i % 5 = i by omega] at h1
    rw [h1]
    have h2 : (List.replicate n ins0).getD (i / 5) ins0 = ins0 := by
      simp only [List.getD_eq_getElem?_getD, List.getElem?_replicate]
      split <;> rfl
    rw [h2]
    simp only [Array.toList_map, Array.toList_range, List.getElem?_map, List.getElem?_range hi, Option.map_some]
    rcases (by omega : i % 5 = 0 ∨ i % 5 = 1 ∨ i % 5 = 2 ∨ i % 5 = 3 ∨ i % 5 = 4) with e | e | e | e | e <;> simp [e, ins0, Ins.cells]
  · rw [List.getElem?_eq_none (by simp; omega), List.getElem?_eq_none (by rw [flat_len Ins.cells 5 ins_len]; simp; omega)]
theorem insZ_size (n : Nat) : (insZ n).size = n * 5 := size_madeCells _ _
theorem makeI (n : Nat) (hn : n ≤ 1000000) : ∀ w : World, (Instr.makeSlice 26 (.int .i64 (n : Int)) (.int .i64 (n : Int))).run Tryd.prog w =
    .ok (.slice (some ⟨w.heap.size, 0, none⟩) n n) (w.alloc (.cells (insZ n) 54)) := fun w => by
  obtain ⟨i, hi, hz, hs, hb⟩ := info_parts insI_info
  have hb2 : (i.bytes : Int) * (n : Int) ≤ 281474976710656 := by rw [hb]; omega
  have hr := run_make (P := Tryd.prog) w 26 54 i _ Tryd.underlying26 hi hz .i64 .i64 n n (by omega) (by omega) hb2 (by omega)
  simp only [Int.toNat_natCast] at hr
  rw [hs] at hr
  exact hr
theorem own_makeI (n : Nat) (hn : n ≤ 1000000) (w : World) : (w.alloc (.cells (insZ n) 54)).ownsRow w.heap.size 54 5 (.slice (some ⟨w.heap.size, 0, none⟩) n n) n ((List.replicate n ins0).flatMap Ins.cells) :=
  ⟨by rw [flat_len Ins.cells 5 ins_len]; simp, .inr ⟨_, n, insZ n, rfl, Nat.le_refl _, heap_alloc_new w _, Nat.le_refl _, by unfold maxLen; omega, insZ_size n, by rw [← insZ_list, List.take_of_length_le (by rw [Array.length_toList, insZ_size]; exact Nat.le_refl _)]⟩⟩
theorem ins0_ok : ins0.Ok := ⟨by decide, by decide, by decide, by decide, by decide, by decide, by decide, by decide, by decide, by decide⟩
theorem ins_all (n : Nat) (c d : Cd) (hc : c.Ok) (hd : d.Ok) (i : Nat) : ((List.replicate n ins0 ++ c.list ++ d.list).getD i ins0).Ok := by
  have key : ∀ x ∈ List.replicate n ins0 ++ c.list ++ d.list, x.Ok := by
    intro x hx
    rcases List.mem_append.1 hx with hx | hx
    · rcases List.mem_append.1 hx with hx | hx
      · rw [(List.mem_replicate.1 hx).2]; exact ins0_ok
      · obtain ⟨j, hj, rfl⟩ := List.mem_map.1 hx
        exact hc.ins j (List.mem_range.1 hj)
    · obtain ⟨j, hj, rfl⟩ := List.mem_map.1 hx
      exact hd.ins j (List.mem_range.1 hj)
  rw [List.getD_eq_getElem?_getD]
  by_cases hi : i < (List.replicate n ins0 ++ c.list ++ d.list).length
  · rw [List.getElem?_eq_getElem hi]
    exact key _ (List.getElem_mem hi)
  · rw [List.getElem?_eq_none (by omega)]
    exact ins0_ok
/-- An owned row of instructions is a code. -/
theorem cd_of_own {W : World} {base : Nat} {v : Value} {l : List Ins} (h : W.ownsRow base 54 5 v l.length (l.flatMap Ins.cells)) : ∃ A cap, v = .slice A l.length cap ∧ l.length ≤ cap ∧ cap ≤ maxLen ∧ Cd.At ⟨A, l.length, cap, fun i => l.getD i ins0⟩ W := by
  obtain ⟨A, cap, e, h1, h2⟩ := own_sle Ins.cells ins_len ins0 l h
  obtain ⟨A', cap', e', h3, h4⟩ := own_cap h
  rw [e] at e'
  injection e' with e1 _ e2
  subst e1 e2
  exact ⟨A, cap, e, h1, h4, h2⟩
end Go.Proofs.YtjmnogpnjombgaaDoor
