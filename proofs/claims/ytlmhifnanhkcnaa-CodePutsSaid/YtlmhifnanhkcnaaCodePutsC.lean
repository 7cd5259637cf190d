/- CodePuts returns true for every instruction and every row of bytes behind it: the row and the theorem. -/
import Derived.Test.YtlmhifnanhkcnaaCodePutsB
import Derived.Lib.SmallJoins
namespace Go.Proofs.Ytlmhifnanhkcnaa
open Go.Joins Go.ChangeShapes Go.WideShapes Go.ChangeAt Go.RowKit Go.Deep
set_option linter.unusedVariables false

section
variable {H : Type} {enc : TypeId × Value → H} {P : Program} {w : World} {base : Nat} {spare : Nat → Bool} {held : Bool}
/-- A struct by value whose fields are integers, one cell each: the value is the row of its numbers, each within its kind. -/
theorem agg_ints {r : Reach} {b0 : Nat} {t : TypeId} {fs : Array Field} {v : Value} {d : DataW H} {p : List MemPlace} (hs : P.underlying t = some (.struct fs)) (hone : oneCellFields P fs = true) (hC : P.cellsOf t = fs.size)
    (kinds : Nat → IntKind) (hk : ∀ (i : Nat) (f : Field), fs[i]? = some f → P.underlying f.type = some (.int (kinds i)))
    (hv : Value.okWide P w r b0 t v) (h : DataW.Trod enc P w base spare held t v d p) :
    ∃ cs : List Value, v = .agg cs.toArray ∧ cs.length = fs.size ∧ ∀ i, i < fs.size → ∃ n, cs[i]? = some (.int (kinds i) n) ∧ (Lit.int (kinds i) n).wf = true := by
  obtain ⟨cs, rfl, hsz⟩ := okWide_struct hs hv
  obtain ⟨l⟩ := cs
  obtain ⟨fuel, hf⟩ := h
  obtain ⟨xs, n, _, _, _, hxl, hg⟩ := DataW.trod_struct hs hf
  have hl : l.length = fs.size := hsz.trans hC
  refine ⟨l, rfl, hl, fun i hi => ?_⟩
  have hfi : fs[i]? = some fs[i] := Array.getElem?_eq_getElem hi
  obtain ⟨ho, hc1⟩ := hone_of hone i _ hfi
  have hg' : DataW.trod enc P w base spare held n fs[i].type ((l.drop fs[i].offset).take (P.cellsOf fs[i].type)) = xs[i]? := hg i _ hfi
  rw [ho, hc1, take1_drop l i undef (by omega)] at hg'
  obtain ⟨y, hy⟩ : ∃ y, xs[i]? = some y := ⟨xs[i]'(by omega), List.getElem?_eq_getElem (by omega)⟩
  obtain ⟨k, e, _, hw⟩ := DataW.trod_int (hk i _ hfi) (hg'.trans hy)
  refine ⟨k, ?_, hw⟩
  have e' : l.getD i undef = .int (kinds i) k := by simpa using e
  rw [← e']
  simp [List.getD_eq_getElem?_getD, List.getElem?_eq_getElem (show i < l.length by omega)]
end

set_option maxRecDepth 100000 in
theorem codePuts_lifted (os : Os) (started : os.Started) (H : Type) (enc : TypeId × Value → H) :
    ReturnsInHanded {} Try.checked os 3 .any (Rows.codePutsSpec.pre6 enc Try.prog Try.f3 Rows.codePutsRow.domain false) (Rows.codePutsSpec.post enc Try.prog Try.f3 false true false false) := by
  refine law_lifted started (by kernel_rfl) Try.func3
    (ChangeSpec.witness6 (enc := enc) (C := Try.checked) false ⟨#[], #[.agg #[.int .i64 0, .int .i64 0, .int .i64 0, .int .i64 0, .int .u32 0], .slice none 0 0], []⟩ 8 (by kernel_rfl) (by kernel_rfl) (by kernel_rfl) (by kernel_rfl))
    4 rfl (by kernel_rfl) Try.underlying4 (fun ds h => ?_) (by kernel_rfl) ?_
  · rw [show Try.f3.params.size = 2 from by kernel_rfl] at h
    match ds, h with
    | [_, _], _ => rfl
  intro W base args ds p hval hA hlt hsz
  rw [Try.params3] at hA hval hsz
  obtain ⟨v0, v1, d0, d1, p0, p1, rfl, rfl, rfl, h0, h1⟩ := trodAll_two hA
  obtain ⟨cs, rfl, hcl, hcs⟩ := agg_ints Try.underlying24 (by kernel_rfl) (by kernel_rfl) (fun i => if i = 4 then .u32 else .i64) (fun i f hf => by
    rcases i with _ | _ | _ | _ | _ | i
    · obtain rfl := Option.some.inj hf; exact Try.underlying3
    · obtain rfl := Option.some.inj hf; exact Try.underlying3
    · obtain rfl := Option.some.inj hf; exact Try.underlying3
    · obtain rfl := Option.some.inj hf; exact Try.underlying3
    · obtain rfl := Option.some.inj hf; exact Try.underlying22
    · cases hf) (hval 0 24 v0 rfl rfl) h0
  obtain ⟨c0, c1, c2, c3, c4, rfl⟩ : ∃ c0 c1 c2 c3 c4, cs = [c0, c1, c2, c3, c4] := by
    match cs, hcl with
    | [c0, c1, c2, c3, c4], _ => exact ⟨c0, c1, c2, c3, c4, rfl⟩
  obtain ⟨n0, e0, _⟩ := hcs 0 (by decide)
  obtain ⟨n1, e1, _⟩ := hcs 1 (by decide)
  obtain ⟨n2, e2, _⟩ := hcs 2 (by decide)
  obtain ⟨n3, e3, _⟩ := hcs 3 (by decide)
  obtain ⟨n4, e4, w4⟩ := hcs 4 (by decide)
  obtain rfl := Option.some.inj e0
  obtain rfl := Option.some.inj e1
  obtain rfl := Option.some.inj e2
  obtain rfl := Option.some.inj e3
  obtain rfl := Option.some.inj e4
  have hk := bounds_u32 w4
  obtain ⟨A, len, cap, Z, rfl, hlc, hcm, hsl, hwz⟩ := open_sl_ints Try.underlying25 Try.underlying5 (by kernel_rfl) (hval 1 25 v1 rfl rfl) h1 (fun x hx => hlt x (List.mem_append.2 (.inr hx)))
  by_cases h : len ≤ 2000
  · by_cases hin : inByte n0 ∧ inByte n1 ∧ inByte n2 ∧ inByte n3
    · exact codePuts_yes n0 n1 n2 n3 n4 hin.1 hin.2.1 hin.2.2.1 hin.2.2.2 hk.1 hk.2 A len cap Z W h hsl (fun i hi => bounds_u8 (hwz i hi))
    · exact codePuts_no n0 n1 n2 n3 n4 hin A len cap W h
  · exact codePuts_long n0 n1 n2 n3 n4 A len cap W (by omega) (by omega)

theorem codePuts_holds : Rows.CodePutsSaid :=
  OpenClaim.holds_of_wide 3 Try.f3 rfl rfl rfl rfl rfl rfl rfl ⟨rfl, rfl, rfl, rfl, rfl⟩ rfl rfl rfl rfl rfl (by kernel_rfl) Try.func3 (by kernel_rfl)
    (of_decide_eq_true (by kernel_rfl)) (by unfold Func.isWrapper; first | (rw [if_pos (by decide +kernel)]; kernel_rfl) | (rw [if_neg (by decide +kernel)]; exact ⟨rfl, rfl⟩))
    (fun os started H enc _ => codePuts_lifted os started H enc)
end Go.Proofs.Ytlmhifnanhkcnaa
