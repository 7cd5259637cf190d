/- Equality of two threads as structs. -/
import Derived.Test.YtjmnogpnjombgaaDoorMGen
import Derived.Laws.StructEq
namespace Go.Proofs.YtjmnogpnjombgaaDoor
open Go.ChangeShapes Go.WideShapes Go.ChangeAt Go.RowKit Go.Deep
set_option linter.unusedVariables false
set_option maxRecDepth 100000
set_option linter.unusedSimpArgs false

section
variable {P : Program} (w : World)
theorem part_int {e : TypeId} {k : IntKind} (he : P.underlying e = some (.int k)) {xs : Array Value} {off : Nat} {v : Value} (hx : xs[off]? = some v) : (part e xs off).run P w = .ok v w := by
  simp [part, isAgg, run_underlying he, hx]
theorem part_arr {t e : TypeId} {n k : Nat} (ht : P.underlying t = some (.array n e)) (hs : (P.info? t).map (·.size) = some k) (xs : Array Value) (off : Nat) : (part t xs off).run P w = .ok (.agg (xs.extract off (off + k))) w := by
  cases hq : P.info? t with
  | none => simp [hq] at hs
  | some i =>
    have : i.size = k := by simpa [hq] using hs
    simp [part, isAgg, run_underlying ht, sizeOf, typeInfo, hq, this]
/-- An array of integers is equal to itself. -/
theorem eq_ints (d : Nat) (t e : TypeId) (n : Nat) (k : IntKind) (ht : P.underlying t = some (.array n e)) (he : P.underlying e = some (.int k)) (hsz : ∀ w, (sizeOf e).run P w = .ok 1 w)
    (xs : List Int) (hx : xs.length = n) : (Op.equalIn (d + 2) t (.agg (xs.map (Value.int k)).toArray) (.agg (xs.map (Value.int k)).toArray)).run P w = .ok true w := by
  rw [Op.equalIn]
  simp only [Sem.run_bind, run_underlying ht, Result.andThen_ok, hsz, Std.Legacy.Range.forIn_eq_forIn_range', Std.Legacy.Range.size, Nat.sub_zero, Nat.add_sub_cancel, Nat.div_one]
  have hl : ∀ i ∈ List.range' 0 n 1, i < n := fun i hi => by simpa using (List.mem_range'_1.1 hi).2
  generalize List.range' 0 n 1 = l at hl ⊢
  induction l with
  | nil => simp
  | cons i l ih =>
    have hi : i < n := hl i (by simp)
    have px : (part e (xs.map (Value.int k)).toArray (i * 1)).run P w = .ok (.int k (xs.getD i 0)) w := by
      refine part_int w he ?_
      simp [List.getD, List.getElem?_eq_getElem (show i < xs.length by omega)]
    have pe : (Op.equalIn (d + 1) e (.int k (xs.getD i 0)) (.int k (xs.getD i 0))).run P w = .ok true w := by
      rw [run_equalIn_int w d e k k _ _ he]
      simp
    simp only [List.forIn_cons, Sem.run_bind, px, pe, Result.andThen_ok, Bool.not_true, Bool.false_eq_true, if_false, Sem.run_pure]
    exact ih fun j hj => hl j (by simp [hj])
end
theorem regs_size : (Tryd.prog.info? 23).map (·.size) = some 8 := by kernel_rfl
theorem u32_size (w : World) : (sizeOf 22).run Tryd.prog w = .ok 1 w := by
  obtain ⟨i, hi, _, hs, _⟩ := info_parts words_info5'
  simp [sizeOf, typeInfo, hi, hs]
theorem th_eql (t : Th) (w : World) : (binOp .eql 25 (.agg (thArr t)) (.agg (thArr t))).run Tryd.prog w = .ok (.bool true) w := by
  rw [run_eql_struct, show (10000 : Nat) = 9999 + 1 from rfl, run_equalIn_struct w 9999 25 _ _ (by kernel_rfl) (by kernel_rfl)]
  have hf : (Tryd.prog.fieldsOf 25) = (match Tryd.prog.underlying 25 with | some (.struct fs) => fs | _ => #[]) := rfl
  rw [hf, Tryd.underlying25]
  have p0 : (part 3 (thArr t) 0).run Tryd.prog w = .ok (.int .i64 t.pc) w := part_int w Tryd.underlying3 rfl
  have p1 : (part 23 (thArr t) 1).run Tryd.prog w = .ok (.agg ([t.regs 0, t.regs 1, t.regs 2, t.regs 3, t.regs 4, t.regs 5, t.regs 6, t.regs 7].map (Value.int .u32)).toArray) w := by
    rw [part_arr w Tryd.underlying23 regs_size]
    simp [thArr]
  have p2 : (part 3 (thArr t) 9).run Tryd.prog w = .ok (.int .i64 t.st) w := part_int w Tryd.underlying3 rfl
  have q0 : (Op.equalIn 9999 3 (.int .i64 t.pc) (.int .i64 t.pc)).run Tryd.prog w = .ok (t.pc == t.pc) w := run_equalIn_int w 9998 3 .i64 .i64 t.pc t.pc Tryd.underlying3
  have q1 : (Op.equalIn 9999 23 (.agg ([t.regs 0, t.regs 1, t.regs 2, t.regs 3, t.regs 4, t.regs 5, t.regs 6, t.regs 7].map (Value.int .u32)).toArray) (.agg ([t.regs 0, t.regs 1, t.regs 2, t.regs 3, t.regs 4, t.regs 5, t.regs 6, t.regs 7].map (Value.int .u32)).toArray)).run Tryd.prog w = .ok true w := eq_ints w 9997 23 22 8 .u32 Tryd.underlying23 Tryd.underlying22 u32_size [t.regs 0, t.regs 1, t.regs 2, t.regs 3, t.regs 4, t.regs 5, t.regs 6, t.regs 7] rfl
  have q2 : (Op.equalIn 9999 3 (.int .i64 t.st) (.int .i64 t.st)).run Tryd.prog w = .ok (t.st == t.st) w := run_equalIn_int w 9998 3 .i64 .i64 t.st t.st Tryd.underlying3
  simp only [Op.eqFields, Sem.run_bind, Sem.run_ite, p0, p1, p2, q0, q1, q2, Result.andThen_ok, beq_self_eq_true]
  simp [Op.eqFields, Sem.run_bind, Sem.run_ite, p0, p1, p2, q0, q1, q2, -List.map_cons]
theorem th_neq (t : Th) (w : World) : (binOp .neq 25 (.agg (thArr t)) (.agg (thArr t))).run Tryd.prog w = .ok (.bool false) w := by
  have h := th_eql t w
  rw [run_eql_struct] at h
  rw [run_neq_struct]
  revert h
  generalize (Op.equalIn 10000 25 (.agg (thArr t)) (.agg (thArr t))).run Tryd.prog w = r
  cases r <;> simp
end Go.Proofs.YtjmnogpnjombgaaDoor
