/- law08's sameWorld answers true of worlds of the same content. Two threads' states that are the same are equal. -/
import Derived.Test.YtjmnogpnjombgaaDoorLawC
import Derived.Deep.QuietTactic
import Derived.BigQuiet
import Derived.Laws.StructEq
namespace Go.Proofs.YtjmnogpnjombgaaDoor
open Go.ChangeShapes Go.WideShapes Go.ChangeAt Go.RowKit Go.Deep
set_option linter.unusedVariables false
set_option maxRecDepth 100000
set_option linter.unusedSimpArgs false

set_option maxHeartbeats 4000000 in
theorem sameWorld_any (ca ta ra ea pa cb tb rb eb pb : Value) (fa fao bla bca fb fbo blb bcb : Nat) (mA mA' : Option Addr) (m mc mc' : Nat) (sA sA' : Option Addr) (ns sc sc' : Nat) (bA bA' : Option Addr) (nb bc bc' : Nat) (Z : Nat → Int) (L S : Nat → Int × Int) (w : World)
    (h0 : 0 < bla) (h0' : 0 < blb) (hm9 : m ≤ 1000000) (hb9 : nb ≤ 1000000) (hs9 : ns ≤ 1000000) (hfa : w.cell? ⟨fa, fao, none⟩ = some (.slice bA nb bc)) (hfb : w.cell? ⟨fb, fbo, none⟩ = some (.slice bA' nb bc'))
    (hm : Sl w mA m (fun i => .int .u32 (Z i))) (hm' : Sl w mA' m (fun i => .int .u32 (Z i))) (hb : SlE w bA nb 2 (fun i => entc (L i))) (hb' : SlE w bA' nb 2 (fun i => entc (L i))) (hs : SlE w sA ns 2 (fun i => slpc (S i))) (hs' : SlE w sA' ns 2 (fun i => slpc (S i))) :
    Calls Tryd.prog 19 #[.agg #[ca, ta, .slice (some ⟨fa, fao, none⟩) bla bca, .slice mA m mc, ra, .slice sA ns sc, ea, pa], .agg #[cb, tb, .slice (some ⟨fb, fbo, none⟩) blb bcb, .slice mA' m mc', rb, .slice sA' ns sc', eb, pb]] w fun e w' => e = .returned (.bool true) ∧ Below w.heap.size w w' := by
  have hB := ((Below.refl w.heap.size w).alloc (Nat.le_refl _) (Obj.cells #[ca, ta, .slice (some ⟨fa, fao, none⟩) bla bca, .slice mA m mc, ra, .slice sA ns sc, ea, pa] 40)).alloc (by simp) (Obj.cells #[cb, tb, .slice (some ⟨fb, fbo, none⟩) blb bcb, .slice mA' m mc', rb, .slice sA' ns sc', eb, pb] 40)
  have hx := (Blk.new w 40 #[ca, ta, .slice (some ⟨fa, fao, none⟩) bla bca, .slice mA m mc, ra, .slice sA ns sc, ea, pa]).alloc (Obj.cells #[cb, tb, .slice (some ⟨fb, fbo, none⟩) blb bcb, .slice mA' m mc', rb, .slice sA' ns sc', eb, pb] 40)
  have hy := Blk.new2 w (Obj.cells #[ca, ta, .slice (some ⟨fa, fao, none⟩) bla bca, .slice mA m mc, ra, .slice sA ns sc, ea, pa] 40) 40 #[cb, tb, .slice (some ⟨fb, fbo, none⟩) blb bcb, .slice mA' m mc', rb, .slice sA' ns sc', eb, pb]
  have n1 : ((m : Int) != (m : Int)) = false := by simp
  have n2 : ((nb : Int) != (nb : Int)) = false := by simp
  have n3 : ((ns : Int) != (ns : Int)) = false := by simp
  have z0 : (0 : Int) < (bla : Int) := by omega
  have z1 : (0 : Int) < (blb : Int) := by omega
  go_enter Tryd.func19, Tryd.ntmps19
  go_upto_region 1 with fail
  generalize (w.alloc (Obj.cells #[ca, ta, .slice (some ⟨fa, fao, none⟩) bla bca, .slice mA m mc, ra, .slice sA ns sc, ea, pa] 40)).alloc (Obj.cells #[cb, tb, .slice (some ⟨fb, fbo, none⟩) blb bcb, .slice mA' m mc', rb, .slice sA' ns sc', eb, pb] 40) = W at hB hx hy ⊢
  obtain ⟨xb, hxb⟩ : ∃ xb, w.heap.size = xb := ⟨_, rfl⟩
  rw [hxb] at hx hy
  try rw [hxb]
  have x2 : W.cell? ⟨xb, 2, none⟩ = some (.slice (some ⟨fa, fao, none⟩) bla bca) := (hx.cell 2).trans rfl
  have x3 : W.cell? ⟨xb, 3, none⟩ = some (.slice mA m mc) := (hx.cell 3).trans rfl
  have x5 : W.cell? ⟨xb, 5, none⟩ = some (.slice sA ns sc) := (hx.cell 5).trans rfl
  have y2 : W.cell? ⟨xb + 1, 2, none⟩ = some (.slice (some ⟨fb, fbo, none⟩) blb bcb) := (hy.cell 2).trans rfl
  have y3 : W.cell? ⟨xb + 1, 3, none⟩ = some (.slice mA' m mc') := (hy.cell 3).trans rfl
  have y5 : W.cell? ⟨xb + 1, 5, none⟩ = some (.slice sA' ns sc') := (hy.cell 5).trans rfl
  have fa0 : W.cell? ⟨fa, fao, none⟩ = some (.slice bA nb bc) := keepAt hB (World.block_lt_of_cell? w _ hfa) hfa
  have fb0 : W.cell? ⟨fb, fbo, none⟩ = some (.slice bA' nb bc') := keepAt hB (World.block_lt_of_cell? w _ hfb) hfb
  have HA := Lib.hid (And.intro (hm.below (Nat.le_refl _) hB) (And.intro (hm'.below (Nat.le_refl _) hB) (And.intro (hb.below (Nat.le_refl _) hB) (And.intro (hb'.below (Nat.le_refl _) hB) (And.intro (hs.below (Nat.le_refl _) hB) (hs'.below (Nat.le_refl _) hB))))))
  have HB := Lib.hid hB
  clear hB hx hy hxb hfa hfb hm hm' hb hb' hs hs' h0 h0'
  go_quiet (fail)
  go_wp2
  go_loopw [5] (fun i wr => ∃ k : Nat, k ≤ m ∧ i = .int .i64 k ∧ ∃ q, wr = W.drewN q) (fun i _ => m - (intOf i).toNat)
  case atStart => exact ⟨0, Nat.zero_le _, rfl, _, rfl⟩
  case round =>
    obtain ⟨k, hk, rfl, q, rfl⟩ := hrel
    by_cases hkm : k < m
    · have hk0 : (0 : Int) ≤ (k : Int) := by omega
      have hk1 : (k : Int) < (m : Int) := by omega
      obtain ⟨b1, o1, rfl, _, c1⟩ := HA.out.1 (by omega)
      obtain ⟨b2, o2, rfl, _, c2⟩ := HA.out.2.1 (by omega)
      have e1 : W.cell? ⟨b1, o1 + k, none⟩ = some (.int .u32 (Z k)) := c1 k hkm
      have e2 : W.cell? ⟨b2, o2 + k, none⟩ = some (.int .u32 (Z k)) := c2 k hkm
      clear c1 c2
      go_wp2
      go_quiet (fail)
      go_wp2
      go_roundw
      case rel => exact ⟨k + 1, by omega, by go_num, _, rfl⟩
      case measure => simp [intOf]; omega
    · obtain rfl : m = k := by omega
      have hk1 : ¬ (m : Int) < (m : Int) := by omega
      go_wp2
      go_loopw [6] (fun i wr => ∃ k : Nat, k ≤ nb ∧ i = .int .i64 k ∧ ∃ q, wr = W.drewN q) (fun i _ => nb - (intOf i).toNat)
      case atStart => exact ⟨0, Nat.zero_le _, rfl, _, rfl⟩
      case round =>
        obtain ⟨k, hk, rfl, q2, rfl⟩ := hrel
        by_cases hkb : k < nb
        · have hk0 : (0 : Int) ≤ (k : Int) := by omega
          have hk2 : (k : Int) < (nb : Int) := by omega
          obtain ⟨b1, o1, rfl, _, c1⟩ := HA.out.2.2.1 (by omega)
          obtain ⟨b2, o2, rfl, _, c2⟩ := HA.out.2.2.2.1 (by omega)
          have e1 : W.cell? ⟨b1, o1 + k * 2, none⟩ = some (.int .i64 (L k).1) := c1 k hkb 0 _ rfl
          have e2 : W.cell? ⟨b2, o2 + k * 2, none⟩ = some (.int .i64 (L k).1) := c2 k hkb 0 _ rfl
          have e3 : W.cell? ⟨b1, o1 + k * 2 + 1, none⟩ = some (.int .u32 (L k).2) := c1 k hkb 1 _ rfl
          have e4 : W.cell? ⟨b2, o2 + k * 2 + 1, none⟩ = some (.int .u32 (L k).2) := c2 k hkb 1 _ rfl
          clear c1 c2
          go_wp2
          go_quiet (fail)
          go_wp2
          go_roundw
          case rel => exact ⟨k + 1, by omega, by go_num, _, rfl⟩
          case measure => simp [intOf]; omega
        · obtain rfl : nb = k := by omega
          have hk2 : ¬ (nb : Int) < (nb : Int) := by omega
          go_wp2
          go_loopw [7] (fun i wr => ∃ k : Nat, k ≤ ns ∧ i = .int .i64 k ∧ ∃ q, wr = W.drewN q) (fun i _ => ns - (intOf i).toNat)
          case atStart => exact ⟨0, Nat.zero_le _, rfl, _, rfl⟩
          case round =>
            obtain ⟨k, hk, rfl, q3, rfl⟩ := hrel
            by_cases hks : k < ns
            · have hk0 : (0 : Int) ≤ (k : Int) := by omega
              have hk3 : (k : Int) < (ns : Int) := by omega
              obtain ⟨b1, o1, rfl, _, c1⟩ := HA.out.2.2.2.2.1 (by omega)
              obtain ⟨b2, o2, rfl, _, c2⟩ := HA.out.2.2.2.2.2 (by omega)
              have e1 : W.cell? ⟨b1, o1 + k * 2, none⟩ = some (.int .i64 (S k).1) := c1 k hks 0 _ rfl
              have e2 : W.cell? ⟨b2, o2 + k * 2, none⟩ = some (.int .i64 (S k).1) := c2 k hks 0 _ rfl
              have e3 : W.cell? ⟨b1, o1 + k * 2 + 1, none⟩ = some (.int .i64 (S k).2) := c1 k hks 1 _ rfl
              have e4 : W.cell? ⟨b2, o2 + k * 2 + 1, none⟩ = some (.int .i64 (S k).2) := c2 k hks 1 _ rfl
              clear c1 c2
              go_wp2
              go_quiet (fail)
              go_wp2
              go_roundw
              case rel => exact ⟨k + 1, by omega, by go_num, _, rfl⟩
              case measure => simp [intOf]; omega
            · obtain rfl : ns = k := by omega
              have hk3 : ¬ (ns : Int) < (ns : Int) := by omega
              go_wp2
              go_ret
              exact ⟨rfl, ⟨HB.out.os, HB.out.tape, HB.out.output, HB.out.size, HB.out.block⟩⟩
end Go.Proofs.YtjmnogpnjombgaaDoor
namespace Go.Proofs.YtjmnogpnjombgaaDoor
open Go.ChangeShapes Go.WideShapes Go.ChangeAt Go.RowKit Go.Deep
set_option linter.unusedVariables false
set_option maxRecDepth 100000
set_option linter.unusedSimpArgs false

section
variable {P : Program} (w : World)
theorem part_int {e : TypeId} {k : IntKind} (he : P.underlying e = some (.int k)) {xs : Array Value} {off : Nat} {v : Value} (hx : xs[off]? = some v) : (part e xs off).run P w = .ok v w := by
  simp [part, isAgg, run_underlying he, hx]
theorem part_arr {t e : TypeId} {n k : Nat} (ht : P.underlying t = some (.array n e)) (hs : (P.info? t).map (·.size) = some k) (xs : Array Value) (off : Nat) : (part t xs off).run P w = .ok (.agg (xs.extract off (off + k))) w := by
  cases hq : P.info? t with
  | none => simp [hq] at hs
  | some i =>
    have : i.size = k := by simpa [hq] using hs
    simp [part, isAgg, run_underlying ht, sizeOf, typeInfo, hq, this]
/-- An array of integers is equal to itself. -/
theorem eq_ints (d : Nat) (t e : TypeId) (n : Nat) (k : IntKind) (ht : P.underlying t = some (.array n e)) (he : P.underlying e = some (.int k)) (hsz : ∀ w, (sizeOf e).run P w = .ok 1 w)
    (xs : List Int) (hx : xs.length = n) : (Op.equalIn (d + 2) t (.agg (xs.map (Value.int k)).toArray) (.agg (xs.map (Value.int k)).toArray)).run P w = .ok true w := by
  rw [Op.equalIn]
  simp only [Sem.run_bind, run_underlying ht, Result.andThen_ok, hsz, Std.Legacy.Range.forIn_eq_forIn_range', Std.Legacy.Range.size, Nat.sub_zero, Nat.add_sub_cancel, Nat.div_one]
  have hl : ∀ i ∈ List.range' 0 n 1, i < n := fun i hi => by simpa using (List.mem_range'_1.1 hi).2
  generalize List.range' 0 n 1 = l at hl ⊢
  induction l with
  | nil => simp
  | cons i l ih =>
    have hi : i < n := hl i (by simp)
    have px : (part e (xs.map (Value.int k)).toArray (i * 1)).run P w = .ok (.int k (xs.getD i 0)) w := by
      refine part_int w he ?_
      simp [List.getD, List.getElem?_eq_getElem (show i < xs.length by omega)]
    have pe : (Op.equalIn (d + 1) e (.int k (xs.getD i 0)) (.int k (xs.getD i 0))).run P w = .ok true w := by
      rw [run_equalIn_int w d e k k _ _ he]
      simp
    simp only [List.forIn_cons, Sem.run_bind, px, pe, Result.andThen_ok, Bool.not_true, Bool.false_eq_true, if_false, Sem.run_pure]
    exact ih fun j hj => hl j (by simp [hj])
end
theorem regs_size : (Tryd.prog.info? 23).map (·.size) = some 8 := by kernel_rfl
theorem u32_size (w : World) : (sizeOf 22).run Tryd.prog w = .ok 1 w := by
  obtain ⟨i, hi, _, hs, _⟩ := info_parts u32_info3
  simp [sizeOf, typeInfo, hi, hs]
theorem th_eql (t : Th) (w : World) : (binOp .eql 25 (.agg (thArr t)) (.agg (thArr t))).run Tryd.prog w = .ok (.bool true) w := by
  rw [run_eql_struct, show (10000 : Nat) = 9999 + 1 from rfl, run_equalIn_struct w 9999 25 _ _ (by kernel_rfl) (by kernel_rfl)]
  have hf : (Tryd.prog.fieldsOf 25) = (match Tryd.prog.underlying 25 with | some (.struct fs) => fs | _ => #[]) := rfl
  rw [hf, Tryd.underlying25]
  have p0 : (part 3 (thArr t) 0).run Tryd.prog w = .ok (.int .i64 t.pc) w := part_int w Tryd.underlying3 rfl
  have p1 : (part 23 (thArr t) 1).run Tryd.prog w = .ok (.agg ([t.regs 0, t.regs 1, t.regs 2, t.regs 3, t.regs 4, t.regs 5, t.regs 6, t.regs 7].map (Value.int .u32)).toArray) w := by
    rw [part_arr w Tryd.underlying23 regs_size]
    simp [thArr]
  have p2 : (part 3 (thArr t) 9).run Tryd.prog w = .ok (.int .i64 t.st) w := part_int w Tryd.underlying3 rfl
  have q0 : (Op.equalIn 9999 3 (.int .i64 t.pc) (.int .i64 t.pc)).run Tryd.prog w = .ok (t.pc == t.pc) w := run_equalIn_int w 9998 3 .i64 .i64 t.pc t.pc Tryd.underlying3
  have q1 : (Op.equalIn 9999 23 (.agg ([t.regs 0, t.regs 1, t.regs 2, t.regs 3, t.regs 4, t.regs 5, t.regs 6, t.regs 7].map (Value.int .u32)).toArray) (.agg ([t.regs 0, t.regs 1, t.regs 2, t.regs 3, t.regs 4, t.regs 5, t.regs 6, t.regs 7].map (Value.int .u32)).toArray)).run Tryd.prog w = .ok true w := eq_ints w 9997 23 22 8 .u32 Tryd.underlying23 Tryd.underlying22 u32_size [t.regs 0, t.regs 1, t.regs 2, t.regs 3, t.regs 4, t.regs 5, t.regs 6, t.regs 7] rfl
  have q2 : (Op.equalIn 9999 3 (.int .i64 t.st) (.int .i64 t.st)).run Tryd.prog w = .ok (t.st == t.st) w := run_equalIn_int w 9998 3 .i64 .i64 t.st t.st Tryd.underlying3
  simp only [Op.eqFields, Sem.run_bind, Sem.run_ite, p0, p1, p2, q0, q1, q2, Result.andThen_ok, beq_self_eq_true]
  simp [Op.eqFields, Sem.run_bind, Sem.run_ite, p0, p1, p2, q0, q1, q2, -List.map_cons]
end Go.Proofs.YtjmnogpnjombgaaDoor
