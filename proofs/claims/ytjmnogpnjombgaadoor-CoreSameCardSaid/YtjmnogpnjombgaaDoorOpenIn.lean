/- law08's In, opened. -/
import Derived.Test.YtjmnogpnjombgaaDoorAwake08
import Derived.OpenShut
namespace Go.Proofs.YtjmnogpnjombgaaDoor
open Go.ChangeShapes Go.WideShapes Go.ChangeAt Go.RowKit Go.Deep
set_option linter.unusedVariables false
set_option maxRecDepth 100000
set_option linter.unusedSimpArgs false

section
variable {H : Type} {enc : TypeId × Value → H} {W : World}
/-- A thread's state is in its bounds. -/
structure Th.Ok (t : Th) : Prop where
  p0 : -9223372036854775808 ≤ t.pc
  p1 : t.pc ≤ 9223372036854775807
  r : ∀ i, 0 ≤ t.regs i ∧ t.regs i ≤ 4294967295
  s0 : -9223372036854775808 ≤ t.st
  s1 : t.st ≤ 9223372036854775807
theorem elem_regs (n : Nat) (cs : List Value) (x : DataW H × List MemPlace) (h : DataW.trod enc Tryd.prog W 0 (fun _ => true) true n 23 cs = some x) :
    ∃ r : Nat → Int, cs = [.int .u32 (r 0), .int .u32 (r 1), .int .u32 (r 2), .int .u32 (r 3), .int .u32 (r 4), .int .u32 (r 5), .int .u32 (r 6), .int .u32 (r 7)] ∧ ∀ i, 0 ≤ r i ∧ r i ≤ 4294967295 := by
  obtain ⟨xs, m, _, _, hl, hxl, hg⟩ := DataW.trod_array Tryd.underlying23 h
  have hcl : cs.length = 8 := hl.trans (by kernel_rfl)
  have hc1 : Tryd.prog.cellsOf 22 = 1 := by kernel_rfl
  have hk : ∀ i, i < 8 → ∃ z : Int, cs[i]? = some (.int .u32 z) ∧ 0 ≤ z ∧ z ≤ 4294967295 := fun i hi => by
    have h1 := hg i hi
    rw [hc1, Nat.mul_one, take1_drop cs i undef (by omega)] at h1
    obtain ⟨y, hy⟩ : ∃ y, xs[i]? = some y := ⟨xs[i]'(by omega), List.getElem?_eq_getElem (by omega)⟩
    obtain ⟨z, e, _, hw⟩ := DataW.trod_int Tryd.underlying22 (h1.trans hy)
    refine ⟨z, ?_, (bounds_u32 hw).1, (bounds_u32 hw).2⟩
    have e2 : cs.getD i undef = .int .u32 z := by simpa using e
    rw [List.getD_eq_getElem?_getD, List.getElem?_eq_getElem (show i < cs.length by omega)] at e2
    rw [List.getElem?_eq_getElem (show i < cs.length by omega)]
    exact congrArg some (by simpa using e2)
  obtain ⟨c0, c1, c2, c3, c4, c5, c6, c7, rfl⟩ : ∃ c0 c1 c2 c3 c4 c5 c6 c7, cs = [c0, c1, c2, c3, c4, c5, c6, c7] := by
    match cs, hcl with
    | [c0, c1, c2, c3, c4, c5, c6, c7], _ => exact ⟨c0, c1, c2, c3, c4, c5, c6, c7, rfl⟩
  obtain ⟨z0, e0, w0⟩ := hk 0 (by decide)
  obtain ⟨z1, e1, w1⟩ := hk 1 (by decide)
  obtain ⟨z2, e2, w2⟩ := hk 2 (by decide)
  obtain ⟨z3, e3, w3⟩ := hk 3 (by decide)
  obtain ⟨z4, e4, w4⟩ := hk 4 (by decide)
  obtain ⟨z5, e5, w5⟩ := hk 5 (by decide)
  obtain ⟨z6, e6, w6⟩ := hk 6 (by decide)
  obtain ⟨z7, e7, w7⟩ := hk 7 (by decide)
  obtain rfl := Option.some.inj e0
  obtain rfl := Option.some.inj e1
  obtain rfl := Option.some.inj e2
  obtain rfl := Option.some.inj e3
  obtain rfl := Option.some.inj e4
  obtain rfl := Option.some.inj e5
  obtain rfl := Option.some.inj e6
  obtain rfl := Option.some.inj e7
  refine ⟨fun i => [z0, z1, z2, z3, z4, z5, z6, z7].getD i 0, rfl, fun i => ?_⟩
  rcases i with _ | _ | _ | _ | _ | _ | _ | _ | i
  · exact w0
  · exact w1
  · exact w2
  · exact w3
  · exact w4
  · exact w5
  · exact w6
  · exact w7
  · simp
theorem elem_thread (n : Nat) (cs : List Value) (x : DataW H × List MemPlace) (h : DataW.trod enc Tryd.prog W 0 (fun _ => true) true n 25 cs = some x) : ∃ t : Th, cs = t.cells ∧ t.Ok := by
  obtain ⟨y0, y1, y2, m, rfl, hlen, h0, h1, h2⟩ := trod_struct3 Tryd.underlying25 h
  have hcl : cs.length = 10 := hlen.trans (by kernel_rfl)
  obtain ⟨c0, c1, c2, c3, c4, c5, c6, c7, c8, c9, rfl⟩ : ∃ c0 c1 c2 c3 c4 c5 c6 c7 c8 c9, cs = [c0, c1, c2, c3, c4, c5, c6, c7, c8, c9] := by
    match cs, hcl with
    | [c0, c1, c2, c3, c4, c5, c6, c7, c8, c9], _ => exact ⟨c0, c1, c2, c3, c4, c5, c6, c7, c8, c9, rfl⟩
  obtain ⟨p, e0, _, wp⟩ := DataW.trod_int Tryd.underlying3 (show DataW.trod enc Tryd.prog W 0 (fun _ => true) true m 3 [c0] = some y0 from h0)
  obtain ⟨r, e1, wr⟩ := elem_regs m _ y1 (show DataW.trod enc Tryd.prog W 0 (fun _ => true) true m 23 [c1, c2, c3, c4, c5, c6, c7, c8] = some y1 from h1)
  obtain ⟨s, e2, _, ws⟩ := DataW.trod_int Tryd.underlying3 (show DataW.trod enc Tryd.prog W 0 (fun _ => true) true m 3 [c9] = some y2 from h2)
  simp only [List.cons.injEq, and_true] at e0 e1 e2
  obtain ⟨rfl, rfl, rfl, rfl, rfl, rfl, rfl, rfl⟩ := e1
  subst e0 e2
  exact ⟨⟨p, r, s⟩, rfl, (bounds_i64 wp).1, (bounds_i64 wp).2, wr, (bounds_i64 ws).1, (bounds_i64 ws).2⟩
theorem elem_ent (n : Nat) (cs : List Value) (x : DataW H × List MemPlace) (h : DataW.trod enc Tryd.prog W 0 (fun _ => true) true n 96 cs = some x) : ∃ a : Int × Int, cs = entc a ∧ 0 ≤ a.2 ∧ a.2 ≤ 4294967295 := by
  obtain ⟨a, e, _, w⟩ := elem_int2 (k0 := .i64) (k1 := .u32) Tryd.underlying96 (by kernel_rfl) (by kernel_rfl) Tryd.underlying3 Tryd.underlying22 n cs x h
  exact ⟨a, e, (bounds_u32 w).1, (bounds_u32 w).2⟩
theorem elem_u8 (n : Nat) (cs : List Value) (x : DataW H × List MemPlace) (h : DataW.trod enc Tryd.prog W 0 (fun _ => true) true n 5 cs = some x) : ∃ z : Nat, cs = [.int .u8 (z : Int)] ∧ z ≤ 255 := by
  obtain ⟨z, e1, e2, w⟩ := DataW.trod_int Tryd.underlying5 h
  have := bounds_u8 w
  exact ⟨z.toNat, by rw [e1, show ((z.toNat : Nat) : Int) = z by omega], by omega⟩
/-- An In, opened. -/
structure InD where
  t : Th
  c : Cd
  bA : Option Addr
  (bn bcap : Nat)
  Bf : Nat → Int × Int
  mA : Option Addr
  (m mcap : Nat)
  Z : Nat → Int
  z : Nat
  aA : Option Addr
  (an acap : Nat)
  Y : Nat → Nat
def InD.arr (q : InD) : Array Value := inArr q.t q.c q.bA q.bn q.bcap q.mA q.m q.mcap q.z q.aA q.an q.acap
structure InD.Ok (q : InD) : Prop where
  t : q.t.Ok
  c : q.c.Ok
  bl : q.bn ≤ q.bcap ∧ q.bcap ≤ maxLen
  ml : q.m ≤ q.mcap ∧ q.mcap ≤ maxLen
  al : q.an ≤ q.acap ∧ q.acap ≤ maxLen
  B : ∀ i, i < q.bn → 0 ≤ (q.Bf i).2 ∧ (q.Bf i).2 ≤ 4294967295
  Z : ∀ i, i < q.m → 0 ≤ q.Z i ∧ q.Z i ≤ 4294967295
  z : q.z ≤ 255
  Y : ∀ i, i < q.an → q.Y i ≤ 255
structure InD.At (q : InD) (W : World) : Prop where
  c : q.c.At W
  b : SlE W q.bA q.bn 2 (fun i => entc (q.Bf i))
  m : Sl W q.mA q.m (fun i => .int .u32 (q.Z i))
  a : Sl W q.aA q.an (fun i => .int .u8 (q.Y i : Int))
theorem InD.At.step {q : InD} {W w1 : World} (h : q.At W) (hb : Below W.heap.size W w1) : q.At w1 := ⟨h.c.step hb, h.b.below (Nat.le_refl _) hb, h.m.below (Nat.le_refl _) hb, h.a.below (Nat.le_refl _) hb⟩
theorem elem_in (n : Nat) (cs : List Value) (x : DataW H × List MemPlace) (h : DataW.trod enc Tryd.prog W 0 (fun _ => true) true n 31 cs = some x) : ∃ q : InD, cs = q.arr.toList ∧ q.Ok ∧ q.At W := by
  obtain ⟨xs, m, _, rfl, hlen, hxl, hf⟩ := DataW.trod_struct Tryd.underlying31 h
  have hcl : cs.length = 15 := hlen.trans (by kernel_rfl)
  match xs, hxl with
  | [y0, y1, y2, y3, y4, y5], _ =>
    obtain ⟨c0, c1, c2, c3, c4, c5, c6, c7, c8, c9, d0, d1, d2, d3, d4, rfl⟩ : ∃ c0 c1 c2 c3 c4 c5 c6 c7 c8 c9 d0 d1 d2 d3 d4, cs = [c0, c1, c2, c3, c4, c5, c6, c7, c8, c9, d0, d1, d2, d3, d4] := by
      match cs, hcl with
      | [c0, c1, c2, c3, c4, c5, c6, c7, c8, c9, d0, d1, d2, d3, d4], _ => exact ⟨c0, c1, c2, c3, c4, c5, c6, c7, c8, c9, d0, d1, d2, d3, d4, rfl⟩
    obtain ⟨t, e0, ht⟩ := elem_thread m _ y0 (show DataW.trod enc Tryd.prog W 0 (fun _ => true) true m 25 [c0, c1, c2, c3, c4, c5, c6, c7, c8, c9] = some y0 from hf 0 _ rfl)
    obtain ⟨c, e1, hc, hca⟩ := elem_code m _ y1 (show DataW.trod enc Tryd.prog W 0 (fun _ => true) true m 26 [d0] = some y1 from hf 1 _ rfl)
    obtain ⟨bA, bn, bcap, Bf, e2, hbl, hbm, hbs, hbo⟩ := open_slc (size := 2) Tryd.underlying27 (by kernel_rfl) (by decide) entc (fun a : Int × Int => 0 ≤ a.2 ∧ a.2 ≤ 4294967295) elem_ent (show DataW.trod enc Tryd.prog W 0 (fun _ => true) true m 27 [d1] = some y2 from hf 2 _ rfl)
    obtain ⟨mA, mn, mcap, Z, e3, ml, mm, ms, mo⟩ := open_words (show DataW.trod enc Tryd.prog W 0 (fun _ => true) true m 28 [d2] = some y3 from hf 3 _ rfl)
    obtain ⟨z, e4, hz⟩ := elem_u8 m _ y4 (show DataW.trod enc Tryd.prog W 0 (fun _ => true) true m 5 [d3] = some y4 from hf 4 _ rfl)
    obtain ⟨aA, an, acap, Y, e5, hal, ham, has, hao⟩ := open_slc (size := 1) Tryd.underlying29 (by kernel_rfl) (by decide) (fun z : Nat => [.int .u8 (z : Int)]) (fun z => z ≤ 255) elem_u8 (show DataW.trod enc Tryd.prog W 0 (fun _ => true) true m 29 [d4] = some y5 from hf 5 _ rfl)
    unfold Th.cells at e0
    simp only [List.cons.injEq, and_true] at e0 e1 e2 e3 e4 e5
    obtain ⟨rfl, rfl, rfl, rfl, rfl, rfl, rfl, rfl, rfl, rfl⟩ := e0
    subst e1 e2 e3 e4 e5
    exact ⟨⟨t, c, bA, bn, bcap, Bf, mA, mn, mcap, Z, z, aA, an, acap, Y⟩, rfl, ⟨ht, hc, ⟨hbl, hbm⟩, ⟨ml, mm⟩, ⟨hal, ham⟩, hbo, mo, hz, hao⟩, ⟨hca, hbs, ms, sl_of_slE has (fun _ _ => rfl)⟩⟩
theorem open_in {b0 : Nat} {v : Value} {d : DataW H} {p : List MemPlace} (hv : Value.okWide Tryd.prog W .any b0 31 v) (h : DataW.Trod enc Tryd.prog W 0 (fun _ => true) true 31 v d p) :
    ∃ q : InD, v = .agg q.arr ∧ q.Ok ∧ q.At W := by
  obtain ⟨cs, rfl, _⟩ := okWide_struct Tryd.underlying31 hv
  obtain ⟨fuel, hf⟩ := h
  obtain ⟨l⟩ := cs
  obtain ⟨q, e, ho, ha⟩ := elem_in _ _ _ hf
  have e' : l = q.arr.toList := by simpa [Value.cells] using e
  exact ⟨q, by rw [e'], ho, ha⟩
end
end Go.Proofs.YtjmnogpnjombgaaDoor
