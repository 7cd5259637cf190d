/- A struct of integers by value, opened; an instruction. -/
import Derived.Test.YtlmhifnanhkcnaaDoorMem
import Derived.Deep.Fields
namespace Go.Proofs.YtlmhifnanhkcnaaDoor
open Go.ChangeShapes Go.WideShapes Go.ChangeAt Go.RowKit Go.Deep
set_option linter.unusedVariables false

section
variable {H : Type} {enc : TypeId × Value → H} {P : Program} {w : World} {base : Nat} {spare : Nat → Bool} {held : Bool}
/-- A struct by value whose fields are integers, one cell each: the value is the row of its numbers, each within its kind. -/
theorem agg_ints {r : Reach} {b0 : Nat} {t : TypeId} {fs : Array Field} {v : Value} {d : DataW H} {p : List MemPlace} (hs : P.underlying t = some (.struct fs)) (hone : oneCellFields P fs = true) (hC : P.cellsOf t = fs.size)
    (kinds : Nat → IntKind) (hk : ∀ (i : Nat) (f : Field), fs[i]? = some f → P.underlying f.type = some (.int (kinds i)))
    (hv : Value.okWide P w r b0 t v) (h : DataW.Trod enc P w base spare held t v d p) :
    ∃ cs : List Value, v = .agg cs.toArray ∧ cs.length = fs.size ∧ ∀ i, i < fs.size → ∃ n, cs[i]? = some (.int (kinds i) n) ∧ (Lit.int (kinds i) n).wf = true := by
  obtain ⟨cs, rfl, hsz⟩ := okWide_struct hs hv
  obtain ⟨l⟩ := cs
  obtain ⟨fuel, hf⟩ := h
  obtain ⟨xs, n, _, _, _, hxl, hg⟩ := DataW.trod_struct hs hf
  have hl : l.length = fs.size := hsz.trans hC
  refine ⟨l, rfl, hl, fun i hi => ?_⟩
  have hfi : fs[i]? = some fs[i] := Array.getElem?_eq_getElem hi
  obtain ⟨ho, hc1⟩ := hone_of hone i _ hfi
  have hg' : DataW.trod enc P w base spare held n fs[i].type ((l.drop fs[i].offset).take (P.cellsOf fs[i].type)) = xs[i]? := hg i _ hfi
  rw [ho, hc1, take1_drop l i undef (by omega)] at hg'
  obtain ⟨y, hy⟩ : ∃ y, xs[i]? = some y := ⟨xs[i]'(by omega), List.getElem?_eq_getElem (by omega)⟩
  obtain ⟨k, e, _, hw⟩ := DataW.trod_int (hk i _ hfi) (hg'.trans hy)
  refine ⟨k, ?_, hw⟩
  have e' : l.getD i undef = .int (kinds i) k := by simpa using e
  rw [← e']
  simp [List.getD_eq_getElem?_getD, List.getElem?_eq_getElem (show i < l.length by omega)]

theorem open_instr {b0 : Nat} {v : Value} {d : DataW H} {p : List MemPlace} (hv : Value.okWide Tryd.prog w .any b0 24 v) (h : DataW.Trod enc Tryd.prog w base spare held 24 v d p) :
    ∃ o a b c k : Int, v = .agg #[.int .i64 o, .int .i64 a, .int .i64 b, .int .i64 c, .int .u32 k] ∧ 0 ≤ k ∧ k ≤ 4294967295 := by
  obtain ⟨cs, rfl, hcl, hcs⟩ := agg_ints Tryd.underlying24 (by kernel_rfl) (by kernel_rfl) (fun i => if i = 4 then .u32 else .i64) (fun i f hf => by
    rcases i with _ | _ | _ | _ | _ | i
    · obtain rfl := Option.some.inj hf; exact Tryd.underlying3
    · obtain rfl := Option.some.inj hf; exact Tryd.underlying3
    · obtain rfl := Option.some.inj hf; exact Tryd.underlying3
    · obtain rfl := Option.some.inj hf; exact Tryd.underlying3
    · obtain rfl := Option.some.inj hf; exact Tryd.underlying22
    · cases hf) hv h
  obtain ⟨c0, c1, c2, c3, c4, rfl⟩ : ∃ c0 c1 c2 c3 c4, cs = [c0, c1, c2, c3, c4] := by
    match cs, hcl with
    | [c0, c1, c2, c3, c4], _ => exact ⟨c0, c1, c2, c3, c4, rfl⟩
  obtain ⟨n0, e0, _⟩ := hcs 0 (by decide)
  obtain ⟨n1, e1, _⟩ := hcs 1 (by decide)
  obtain ⟨n2, e2, _⟩ := hcs 2 (by decide)
  obtain ⟨n3, e3, _⟩ := hcs 3 (by decide)
  obtain ⟨n4, e4, w4⟩ := hcs 4 (by decide)
  obtain rfl := Option.some.inj e0
  obtain rfl := Option.some.inj e1
  obtain rfl := Option.some.inj e2
  obtain rfl := Option.some.inj e3
  obtain rfl := Option.some.inj e4
  exact ⟨n0, n1, n2, n3, n4, rfl, (bounds_u32 w4).1, (bounds_u32 w4).2⟩
end
end Go.Proofs.YtlmhifnanhkcnaaDoor
