/- Events: as values, in memory, opened; a thread's events with their places. -/
import Derived.Test.YtidedjjpaoagjaaOpen0
import Derived.Test.YtidedjjpaoagjaaGrow
namespace Go.Proofs.Ytidedjjpaoagjaa
open Go.ChangeShapes Go.WideShapes Go.ChangeAt Go.RowKit Go.Deep
set_option linter.unusedVariables false
set_option linter.unusedSimpArgs false

/-- An event. -/
structure Ev where
  (kind who pc addr value old k : Int)
  ok : Bool
  v0 : 0 ≤ value
  v1 : value ≤ 4294967295
  k0 : 0 ≤ k
  k1 : k ≤ 4294967295
instance : Inhabited Ev := ⟨⟨0, 0, 0, 0, 0, 0, 0, false, by decide, by decide, by decide, by decide⟩⟩
def Ev.cells (x : Ev) : List Value := [.int .i64 x.kind, .int .i64 x.who, .int .i64 x.pc, .int .i64 x.addr, .int .u32 x.value, .int .u32 x.old, .int .u32 x.k, .bool x.ok]
def Ev.val (x : Ev) : Value := .agg #[.int .i64 x.kind, .int .i64 x.who, .int .i64 x.pc, .int .i64 x.addr, .int .u32 x.value, .int .u32 x.old, .int .u32 x.k, .bool x.ok]
section
variable {H : Type} {enc : TypeId × Value → H} {W : World}
theorem elem_ev (n : Nat) (cs : List Value) (x : DataW H × List MemPlace) (h : DataW.trod enc Try.prog W 0 (fun _ => true) true n 31 cs = some x) : ∃ e : Ev, cs = e.cells ∧ True := by
  obtain ⟨xs, m, _, _, hlen, hxl, hg⟩ := DataW.trod_struct Try.underlying31 h
  have hcl : cs.length = 8 := hlen.trans (by kernel_rfl)
  match cs, hcl with
  | [c0, c1, c2, c3, c4, c5, c6, c7], _ =>
    have hz : ∀ i, i < 8 → ∃ y, xs[i]? = some y := fun i hi => ⟨xs[i]'(by rw [hxl]; exact hi), List.getElem?_eq_getElem _⟩
    obtain ⟨y0, e0⟩ := hz 0 (by omega)
    obtain ⟨y1, e1⟩ := hz 1 (by omega)
    obtain ⟨y2, e2⟩ := hz 2 (by omega)
    obtain ⟨y3, e3⟩ := hz 3 (by omega)
    obtain ⟨y4, e4⟩ := hz 4 (by omega)
    obtain ⟨y5, e5⟩ := hz 5 (by omega)
    obtain ⟨y6, e6⟩ := hz 6 (by omega)
    obtain ⟨y7, e7⟩ := hz 7 (by omega)
    obtain ⟨z0, q0, _, w0⟩ := DataW.trod_int Try.underlying3 ((show DataW.trod enc Try.prog W 0 (fun _ => true) true m 3 [c0] = xs[0]? from hg 0 _ rfl).trans e0)
    obtain ⟨z1, q1, _, w1⟩ := DataW.trod_int Try.underlying3 ((show DataW.trod enc Try.prog W 0 (fun _ => true) true m 3 [c1] = xs[1]? from hg 1 _ rfl).trans e1)
    obtain ⟨z2, q2, _, w2⟩ := DataW.trod_int Try.underlying3 ((show DataW.trod enc Try.prog W 0 (fun _ => true) true m 3 [c2] = xs[2]? from hg 2 _ rfl).trans e2)
    obtain ⟨z3, q3, _, w3⟩ := DataW.trod_int Try.underlying3 ((show DataW.trod enc Try.prog W 0 (fun _ => true) true m 3 [c3] = xs[3]? from hg 3 _ rfl).trans e3)
    obtain ⟨z4, q4, _, w4⟩ := DataW.trod_int Try.underlying29 ((show DataW.trod enc Try.prog W 0 (fun _ => true) true m 29 [c4] = xs[4]? from hg 4 _ rfl).trans e4)
    obtain ⟨z5, q5, _, w5⟩ := DataW.trod_int Try.underlying29 ((show DataW.trod enc Try.prog W 0 (fun _ => true) true m 29 [c5] = xs[5]? from hg 5 _ rfl).trans e5)
    obtain ⟨z6, q6, _, w6⟩ := DataW.trod_int Try.underlying29 ((show DataW.trod enc Try.prog W 0 (fun _ => true) true m 29 [c6] = xs[6]? from hg 6 _ rfl).trans e6)
    obtain ⟨z7, q7, _⟩ := DataW.trod_bool Try.underlying4 ((show DataW.trod enc Try.prog W 0 (fun _ => true) true m 4 [c7] = xs[7]? from hg 7 _ rfl).trans e7)
    simp only [List.cons.injEq, and_true] at q0 q1 q2 q3 q4 q5 q6 q7
    subst q0 q1 q2 q3 q4 q5 q6 q7
    exact ⟨⟨z0, z1, z2, z3, z4, z5, z6, z7, (bounds_u32 w4).1, (bounds_u32 w4).2, (bounds_u32 w6).1, (bounds_u32 w6).2⟩, rfl, trivial⟩
theorem open_evs {b0 : Nat} {v : Value} {d : DataW H} {p : List MemPlace} (hv : Value.okWide Try.prog W .any b0 22 v) (h : DataW.Trod enc Try.prog W 0 (fun _ => true) true 22 v d p) (hlt : ∀ x ∈ p, x.block < W.heap.size) :
    ∃ (A : Option Addr) (len cap : Nat) (E : Nat → Ev), v = .slice A len cap ∧ len ≤ cap ∧ cap ≤ maxLen ∧ SlE W A len 8 (fun i => (E i).cells) := by
  obtain ⟨A, len, cap, F, rfl, hlc, hcm, hsl, _⟩ := open_sl (size := 8) Try.underlying22 (by kernel_rfl) (by decide) Ev.cells (fun _ => True) elem_ev hv h hlt
  exact ⟨A, len, cap, F, rfl, hlc, hcm, hsl⟩
end

/-- A thread's events among the first so many, with their places. -/
def evs (E : Nat → Ev) (t : Int) (k : Nat) : List (Nat × Ev) := ((List.range k).map fun i => (i, E i)).filter fun x => x.2.who == t
theorem evs_hit {E : Nat → Ev} {t : Int} {k : Nat} (h : (E k).who = t) : evs E t (k + 1) = evs E t k ++ [(k, E k)] := by
  unfold evs
  rw [List.range_succ, List.map_append, List.filter_append]
  congr 1
  show List.filter (fun x : Nat × Ev => x.2.who == t) [(k, E k)] = [(k, E k)]
  rw [List.filter_cons_of_pos (by simpa using h)]
  rfl
theorem evs_miss {E : Nat → Ev} {t : Int} {k : Nat} (h : (E k).who ≠ t) : evs E t (k + 1) = evs E t k := by
  unfold evs
  rw [List.range_succ, List.map_append, List.filter_append]
  show _ ++ List.filter (fun x : Nat × Ev => x.2.who == t) [(k, E k)] = _
  rw [List.filter_cons_of_neg (by simpa using h)]
  simp
theorem evs_len (E : Nat → Ev) (t : Int) (k : Nat) : (evs E t k).length ≤ k := by
  unfold evs
  have := List.length_filter_le (fun x : Nat × Ev => x.2.who == t) ((List.range k).map fun i => (i, E i))
  simpa using this
end Go.Proofs.Ytidedjjpaoagjaa
