/- A buffer as a list of entries and a room; its cells; the small methods. -/
import Derived.Test.YtaanmamgmjhegaaRow
namespace Go.Proofs.Ytaanmamgmjhegaa
open Go.ChangeShapes Go.WideShapes Go.ChangeAt Go.RowKit Go.Deep
set_option linter.unusedVariables false

/-- An entry: address and value. -/
abbrev Ent := Int × Int
/-- A buffer's cells: 16 entries, the first one's place, how many, the room. -/
structure BufC (cs : Array Value) (R : Nat → Ent) (first n : Nat) (room : Int) : Prop where
  size : cs.size = 35
  addr : ∀ i, i < 16 → cs[i * 2]? = some (.int .i64 (R i).1)
  val : ∀ i, i < 16 → cs[i * 2 + 1]? = some (.int .u32 (R i).2)
  first : cs[32]? = some (.int .i64 first)
  n : cs[33]? = some (.int .i64 n)
  room : cs[34]? = some (.int .i64 room)

/-- A buffer that holds just these entries, the oldest first. -/
structure Buf (cs : Array Value) (l : List Ent) (room : Int) : Prop where
  ex : ∃ R first, first < 16 ∧ BufC cs R first l.length room ∧ ∀ j, j < l.length → R ((first + j) % 16) = l.getD j (0, 0)
  le : l.length ≤ 16
  r0 : -9223372036854775808 ≤ room
  r1 : room ≤ 9223372036854775807

theorem BufC.one {cs : Array Value} {R : Nat → Ent} {first n : Nat} {room : Int} (h : BufC cs R first n room) : ∀ i, i < 35 → ∃ k z, cs[i]? = some (.int k z) := by
  intro i hi
  rcases (by omega : i < 32 ∨ i = 32 ∨ i = 33 ∨ i = 34) with h32 | rfl | rfl | rfl
  · rcases Nat.mod_two_eq_zero_or_one i with h0 | h1
    · have := h.addr (i / 2) (by omega)
      rw [show i / 2 * 2 = i by omega] at this
      exact ⟨_, _, this⟩
    · have := h.val (i / 2) (by omega)
      rw [show i / 2 * 2 + 1 = i by omega] at this
      exact ⟨_, _, this⟩
  · exact ⟨_, _, h.first⟩
  · exact ⟨_, _, h.n⟩
  · exact ⟨_, _, h.room⟩

theorem len_any (cs : Array Value) (l : List Ent) (room : Int) (h : Buf cs l room) (w : World) :
    Calls Try.prog 15 #[.agg cs] w fun e w' => e = .returned (.int .i64 l.length) ∧ Below w.heap.size w w' := by
  obtain ⟨R, first, hf, hc, hl⟩ := h.ex
  have hn := hc.n
  go_enter Try.func15, Try.ntmps15
  go_wp2
  go_ret
  exact ⟨rfl, (Below.refl _ _).alloc (Nat.le_refl _) _⟩

theorem full_any (cs : Array Value) (l : List Ent) (room : Int) (h : Buf cs l room) (w : World) :
    Calls Try.prog 16 #[.agg cs] w fun e w' => e = .returned (.bool (decide (room ≤ l.length))) ∧ Below w.heap.size w w' := by
  obtain ⟨R, first, hf, hc, hl⟩ := h.ex
  have hn := hc.n
  have hr := hc.room
  go_enter Try.func16, Try.ntmps16
  go_wp2
  go_ret
  exact ⟨rfl, (Below.refl _ _).alloc (Nat.le_refl _) _⟩

/-- The place of an entry. -/
theorem at_any (cs : Array Value) (R : Nat → Ent) (first n : Nat) (room : Int) (h : BufC cs R first n room) (hf : first < 16) (i : Int) (h0 : 0 ≤ i) (h1 : i ≤ 100) (w : World) :
    Calls Try.prog 33 #[.agg cs, .int .i64 i] w fun e w' => e = .returned (.int .i64 (((first + i.toNat) % 16 : Nat) : Int)) ∧ Below w.heap.size w w' := by
  obtain ⟨i, rfl⟩ : ∃ j : Nat, i = (j : Int) := ⟨i.toNat, by omega⟩
  have hfr := h.first
  have hw : IntKind.i64.wrap ((first : Int) + (i : Int)) = (first : Int) + (i : Int) := IntWalk.i64_in _ (by omega)
  go_enter Try.func33, Try.ntmps33
  go_wp2
  go_ret
  refine ⟨?_, (Below.refl _ _).alloc (Nat.le_refl _) _⟩
  simp

/-- New: an empty buffer, or none. -/
def emptyCells (room : Int) : Array Value := #[.int .i64 0, .int .u32 0, .int .i64 0, .int .u32 0, .int .i64 0, .int .u32 0, .int .i64 0, .int .u32 0, .int .i64 0, .int .u32 0, .int .i64 0, .int .u32 0, .int .i64 0, .int .u32 0, .int .i64 0, .int .u32 0,
  .int .i64 0, .int .u32 0, .int .i64 0, .int .u32 0, .int .i64 0, .int .u32 0, .int .i64 0, .int .u32 0, .int .i64 0, .int .u32 0, .int .i64 0, .int .u32 0, .int .i64 0, .int .u32 0, .int .i64 0, .int .u32 0, .int .i64 0, .int .i64 0, .int .i64 room]
theorem empty_buf (room : Int) (r0 : -9223372036854775808 ≤ room) (r1 : room ≤ 9223372036854775807) : Buf (emptyCells room) [] room :=
  ⟨⟨fun _ => (0, 0), 0, by decide, ⟨rfl, fun i hi => by
    rcases (by omega : i = 0 ∨ i = 1 ∨ i = 2 ∨ i = 3 ∨ i = 4 ∨ i = 5 ∨ i = 6 ∨ i = 7 ∨ i = 8 ∨ i = 9 ∨ i = 10 ∨ i = 11 ∨ i = 12 ∨ i = 13 ∨ i = 14 ∨ i = 15) with rfl | rfl | rfl | rfl | rfl | rfl | rfl | rfl | rfl | rfl | rfl | rfl | rfl | rfl | rfl | rfl <;> rfl, fun i hi => by
    rcases (by omega : i = 0 ∨ i = 1 ∨ i = 2 ∨ i = 3 ∨ i = 4 ∨ i = 5 ∨ i = 6 ∨ i = 7 ∨ i = 8 ∨ i = 9 ∨ i = 10 ∨ i = 11 ∨ i = 12 ∨ i = 13 ∨ i = 14 ∨ i = 15) with rfl | rfl | rfl | rfl | rfl | rfl | rfl | rfl | rfl | rfl | rfl | rfl | rfl | rfl | rfl | rfl <;> rfl, rfl, rfl, rfl⟩, fun j hj => absurd hj (by simp)⟩, by simp, r0, r1⟩

theorem buf_size (n : Nat) (h : n = 35) : (Try.prog.info? 29).map (·.size) = some n := by subst h; kernel_rfl
theorem BufC.all {cs : Array Value} {R : Nat → Ent} {first n : Nat} {room : Int} (h : BufC cs R first n room) : cs.all (·.oneCell') = true := by
  rw [Array.all_eq_true_iff_forall_mem]
  intro v hv
  obtain ⟨i, hi, rfl⟩ := Array.getElem_of_mem hv
  obtain ⟨k, z, e⟩ := h.one i (by rw [← h.size]; exact hi)
  rw [Array.getElem?_eq_getElem hi] at e
  rw [Option.some.inj e]
  rfl
theorem Buf.all {cs : Array Value} {l : List Ent} {room : Int} (h : Buf cs l room) : cs.all (·.oneCell') = true := by
  obtain ⟨R, first, _, hc, _⟩ := h.ex
  exact hc.all
theorem Buf.size {cs : Array Value} {l : List Ent} {room : Int} (h : Buf cs l room) : cs.size = 35 := by
  obtain ⟨R, first, _, hc, _⟩ := h.ex
  exact hc.size
theorem Buf.size35 {cs : Array Value} {l : List Ent} {room : Int} (h : Buf cs l room) : 35 = cs.size := h.size.symm
theorem Buf.info {cs : Array Value} {l : List Ent} {room : Int} (h : Buf cs l room) : (Try.prog.info? 29).map (·.size) = some cs.size := buf_size _ h.size
theorem run_buf {w : World} {g : Nat} {cs : Array Value} {l : List Ent} {room : Int} (h : Buf cs l room) (hb : Blk w g 29 cs) : (loadVar 29 ⟨g, 0, none⟩).run Try.prog w = .ok (.agg cs) w :=
  run_row w g _ _ cs _ hb Try.underlying29 rfl h.info

theorem new_any (room : Int) (w : World) :
    Calls Try.prog 12 #[.int .i64 room] w fun e w' => e = .returned (.tuple #[.agg (emptyCells (if 1 ≤ room ∧ room ≤ 16 then room else 0)), .int .i64 (if 1 ≤ room ∧ room ≤ 16 then 0 else 1)]) ∧ Below w.heap.size w w' := by
  have hB : ∀ o, Below w.heap.size w (w.alloc o) := fun o => (Below.refl _ _).alloc (Nat.le_refl _) o
  by_cases h : 1 ≤ room ∧ room ≤ 16
  · rw [if_pos h, if_pos h]
    obtain ⟨h0, h1⟩ := h
    have E := empty_buf room (by omega) (by omega)
    go_enter Try.func12, Try.ntmps12
    go_wp2_with (refine wpList_store_row rfl 29 (.tmp 2) (.tmp 12) rfl _ rfl (emptyCells room) rfl 29 (emptyCells 0) (Blk.new _ _ _) rfl E.info E.all ?_; intro w1 hb1 hg1; have hB1 := below_row (hB _) hg1 (by simp) (Nat.le_refl _); clear hB hg1)
    exact bodyPost_ret (results_row_tmp rfl _ _ _ _ rfl (run_buf E hb1)) rfl ⟨rfl, hB1⟩
  · rw [if_neg h, if_neg h]
    have E := empty_buf 0 (by omega) (by omega)
    by_cases h0 : room < 1
    · clear h
      go_enter Try.func12, Try.ntmps12
      go_wp2_with (refine wpList_store_row rfl 29 (.tmp 2) (.tmp 10) rfl _ rfl (emptyCells 0) rfl 29 (emptyCells 0) (Blk.new _ _ _) rfl E.info E.all ?_; intro w1 hb1 hg1; have hB1 := below_row (hB _) hg1 (by simp) (Nat.le_refl _); clear hB hg1)
      exact bodyPost_ret (results_row_tmp rfl _ _ _ _ rfl (run_buf E hb1)) rfl ⟨rfl, hB1⟩
    · have h1 : 16 < room := by omega
      clear h
      go_enter Try.func12, Try.ntmps12
      go_wp2_with (refine wpList_store_row rfl 29 (.tmp 2) (.tmp 10) rfl _ rfl (emptyCells 0) rfl 29 (emptyCells 0) (Blk.new _ _ _) rfl E.info E.all ?_; intro w1 hb1 hg1; have hB1 := below_row (hB _) hg1 (by simp) (Nat.le_refl _); clear hB hg1)
      exact bodyPost_ret (results_row_tmp rfl _ _ _ _ rfl (run_buf E hb1)) rfl ⟨rfl, hB1⟩
end Go.Proofs.Ytaanmamgmjhegaa
