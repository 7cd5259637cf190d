/- GateCode: what is asked, opened; true. -/
import Derived.Test.YtmhfpjnkjlhbpaaDoorGateM
namespace Go.Proofs.YtmhfpjnkjlhbpaaDoor
open Go.ChangeShapes Go.WideShapes Go.ChangeAt Go.RowKit Go.Deep
set_option linter.unusedVariables false
set_option maxRecDepth 100000
set_option linter.unusedSimpArgs false

theorem gateCode_true (k n a b call th t base arg : Int) (hb : 0 ≤ base ∧ base ≤ 65535) (ha : 0 ≤ arg ∧ arg ≤ 4294967295) (W : World) (hT : Tab W) (hO : ONam W) :
    Calls Tryd.prog 4 #[.agg #[.int .i64 k, .int .i64 n, .int .i64 a, .int .i64 b, .int .i64 call, .int .i64 th, .int .i64 t, .int .u16 base, .int .u32 arg]] W fun e W' => e = .returned (.bool true) ∧ Below W.heap.size W W' := by
  by_cases h : may15 k n a b call th t = true → k ≠ 12 ∧ k ≠ 13 ∧ k ≠ 15
  · exact gateCode_no k n a b call th t base arg ha hb h W hT hO
  · obtain ⟨h2, hy⟩ := Classical.not_imp.1 h
    clear h
    have hk : k = 12 ∨ k = 13 ∨ k = 15 := by omega
    clear hy
    obtain ⟨hth, ht, rfl, rfl, _⟩ := may15_gate h2 hk
    obtain ⟨t', rfl⟩ : ∃ t' : Nat, t = (t' : Int) := ⟨t.toNat, by omega⟩
    obtain ⟨b', rfl⟩ : ∃ b' : Nat, base = (b' : Int) := ⟨base.toNat, by omega⟩
    rcases hk with rfl | rfl | rfl
    · exact gateCode_yes12 n call th arg t' b' h2 (by omega) ha W hT hO
    · exact gateCode_yes13 n call th arg t' b' h2 (by omega) ha W hT hO
    · exact gateCode_yes15 n call th arg t' b' h2 (by omega) ha W hT hO
section
variable {H : Type} {enc : TypeId × Value → H} {W : World}
theorem elem_objG (n : Nat) (cs : List Value) (x : DataW H × List MemPlace) (h : DataW.trod enc Tryd.prog W 0 (fun _ => true) true n 23 cs = some x) : ∃ k n a b : Int, cs = [.int .i64 k, .int .i64 n, .int .i64 a, .int .i64 b] := by
  obtain ⟨xs, m, _, _, hlen, hxl, hg⟩ := DataW.trod_struct Tryd.underlying23 h
  have hcl : cs.length = 4 := hlen.trans (by kernel_rfl)
  match cs, hcl with
  | [c0, c1, c2, c3], _ =>
    have hz : ∀ i, i < 4 → ∃ y, xs[i]? = some y := fun i hi => ⟨xs[i]'(by rw [hxl]; exact hi), List.getElem?_eq_getElem _⟩
    obtain ⟨y0, e0⟩ := hz 0 (by omega)
    obtain ⟨y1, e1⟩ := hz 1 (by omega)
    obtain ⟨y2, e2⟩ := hz 2 (by omega)
    obtain ⟨y3, e3⟩ := hz 3 (by omega)
    obtain ⟨z0, q0, _, w0⟩ := DataW.trod_int Tryd.underlying3 ((show DataW.trod enc Tryd.prog W 0 (fun _ => true) true m 3 [c0] = xs[0]? from hg 0 _ rfl).trans e0)
    obtain ⟨z1, q1, _, w1⟩ := DataW.trod_int Tryd.underlying3 ((show DataW.trod enc Tryd.prog W 0 (fun _ => true) true m 3 [c1] = xs[1]? from hg 1 _ rfl).trans e1)
    obtain ⟨z2, q2, _, w2⟩ := DataW.trod_int Tryd.underlying3 ((show DataW.trod enc Tryd.prog W 0 (fun _ => true) true m 3 [c2] = xs[2]? from hg 2 _ rfl).trans e2)
    obtain ⟨z3, q3, _, w3⟩ := DataW.trod_int Tryd.underlying3 ((show DataW.trod enc Tryd.prog W 0 (fun _ => true) true m 3 [c3] = xs[3]? from hg 3 _ rfl).trans e3)
    simp only [List.cons.injEq, and_true] at q0 q1 q2 q3
    subst q0 q1 q2 q3
    exact ⟨z0, z1, z2, z3, rfl⟩
theorem elem_askG (n : Nat) (cs : List Value) (x : DataW H × List MemPlace) (h : DataW.trod enc Tryd.prog W 0 (fun _ => true) true n 27 cs = some x) :
    ∃ k n a b call th t base arg : Int, cs = [.int .i64 k, .int .i64 n, .int .i64 a, .int .i64 b, .int .i64 call, .int .i64 th, .int .i64 t, .int .u16 base, .int .u32 arg] ∧ (0 ≤ base ∧ base ≤ 65535) ∧ 0 ≤ arg ∧ arg ≤ 4294967295 := by
  obtain ⟨xs, m, _, _, hlen, hxl, hg⟩ := DataW.trod_struct Tryd.underlying27 h
  have hcl : cs.length = 9 := hlen.trans (by kernel_rfl)
  match cs, hcl with
  | [c0, c1, c2, c3, c4, c5, c6, c7, c8], _ =>
    have hz : ∀ i, i < 6 → ∃ y, xs[i]? = some y := fun i hi => ⟨xs[i]'(by rw [hxl]; exact hi), List.getElem?_eq_getElem _⟩
    obtain ⟨y0, e0⟩ := hz 0 (by omega)
    obtain ⟨y1, e1⟩ := hz 1 (by omega)
    obtain ⟨y2, e2⟩ := hz 2 (by omega)
    obtain ⟨y3, e3⟩ := hz 3 (by omega)
    obtain ⟨y4, e4⟩ := hz 4 (by omega)
    obtain ⟨y5, e5⟩ := hz 5 (by omega)
    obtain ⟨k, nn, a, b, q0⟩ := elem_objG _ _ _ ((show DataW.trod enc Tryd.prog W 0 (fun _ => true) true m 23 [c0, c1, c2, c3] = xs[0]? from hg 0 _ rfl).trans e0)
    obtain ⟨z1, q1, _, w1⟩ := DataW.trod_int Tryd.underlying3 ((show DataW.trod enc Tryd.prog W 0 (fun _ => true) true m 3 [c4] = xs[1]? from hg 1 _ rfl).trans e1)
    obtain ⟨z2, q2, _, w2⟩ := DataW.trod_int Tryd.underlying3 ((show DataW.trod enc Tryd.prog W 0 (fun _ => true) true m 3 [c5] = xs[2]? from hg 2 _ rfl).trans e2)
    obtain ⟨z3, q3, _, w3⟩ := DataW.trod_int Tryd.underlying3 ((show DataW.trod enc Tryd.prog W 0 (fun _ => true) true m 3 [c6] = xs[3]? from hg 3 _ rfl).trans e3)
    obtain ⟨z4, q4, _, w4⟩ := DataW.trod_int Tryd.underlying24 ((show DataW.trod enc Tryd.prog W 0 (fun _ => true) true m 24 [c7] = xs[4]? from hg 4 _ rfl).trans e4)
    obtain ⟨z5, q5, _, w5⟩ := DataW.trod_int Tryd.underlying25 ((show DataW.trod enc Tryd.prog W 0 (fun _ => true) true m 25 [c8] = xs[5]? from hg 5 _ rfl).trans e5)
    simp only [List.cons.injEq, and_true] at q0 q1 q2 q3 q4 q5
    obtain ⟨rfl, rfl, rfl, rfl⟩ := q0
    subst q1 q2 q3 q4 q5
    exact ⟨k, nn, a, b, z1, z2, z3, z4, z5, rfl, bounds_u16 w4, bounds_u32 w5⟩
theorem open_askG {b0 : Nat} {v : Value} {d : DataW H} {p : List MemPlace} (hv : Value.okWide Tryd.prog W .any b0 27 v) (h : DataW.Trod enc Tryd.prog W 0 (fun _ => true) true 27 v d p) :
    ∃ k n a b call th t base arg : Int, v = .agg #[.int .i64 k, .int .i64 n, .int .i64 a, .int .i64 b, .int .i64 call, .int .i64 th, .int .i64 t, .int .u16 base, .int .u32 arg] ∧ (0 ≤ base ∧ base ≤ 65535) ∧ 0 ≤ arg ∧ arg ≤ 4294967295 := by
  obtain ⟨cs, rfl, _⟩ := okWide_struct Tryd.underlying27 hv
  obtain ⟨fuel, hf⟩ := h
  obtain ⟨l⟩ := cs
  obtain ⟨k, n, a, b, call, th, t, base, arg, e, h1, h2⟩ := elem_askG _ _ _ hf
  have e' : l = [.int .i64 k, .int .i64 n, .int .i64 a, .int .i64 b, .int .i64 call, .int .i64 th, .int .i64 t, .int .u16 base, .int .u32 arg] := by simpa [Value.cells] using e
  exact ⟨k, n, a, b, call, th, t, base, arg, by rw [e'], h1, h2⟩
end
end Go.Proofs.YtmhfpjnkjlhbpaaDoor
