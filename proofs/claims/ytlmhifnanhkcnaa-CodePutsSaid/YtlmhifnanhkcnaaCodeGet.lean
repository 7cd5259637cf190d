/- The contract of code.Get: the instruction that bytes begin with. -/
import Derived.Test.YtlmhifnanhkcnaaCodeInstr
namespace Go.Proofs.Ytlmhifnanhkcnaa
open Go.RowKit
set_option linter.unusedVariables false

theorem numAt_one (Z : Nat → Int) (i : Nat) : numAt Z i 1 = Z i := by simp [numAt]
theorem rstep_ok {Z : Nat → Int} {len size i : Nat} (h : i + size ≤ len) : rstep Z len size (i, false) = (i + size, false) := by
  unfold rstep; rw [rnum_ok h]
theorem rval_ok {Z : Nat → Int} {len size i : Nat} (h : i + size ≤ len) : rval Z len size (i, false) = numAt Z i size := by
  unfold rval; rw [rnum_ok h]
theorem rstep_sh {Z : Nat → Int} {len size i : Nat} : rstep Z len size (i, true) = (i, true) := by
  unfold rstep; rw [rnum_over (.inl rfl)]
theorem rstep_over {Z : Nat → Int} {len size i : Nat} {b : Bool} (h : len < i + size) : rstep Z len size (i, b) = (i, true) := by
  unfold rstep; rw [rnum_over (.inr h)]
theorem rinstr_ok {Z : Nat → Int} {len i : Nat} (h : i + 8 ≤ len) : rinstrS Z len (i, false) = (i + 8, false) ∧ rinstrV Z len (i, false) = .agg #[.int .i64 (Z i), .int .i64 (Z (i + 1)), .int .i64 (Z (i + 2)), .int .i64 (Z (i + 3)), .int .u32 (numAt Z (i + 4) 4)] := by
  have e1 : rstep Z len 1 (i, false) = (i + 1, false) := rstep_ok (by omega)
  have e2 : rstep Z len 1 (i + 1, false) = (i + 2, false) := rstep_ok (by omega)
  have e3 : rstep Z len 1 (i + 2, false) = (i + 3, false) := rstep_ok (by omega)
  have e4 : rstep Z len 1 (i + 3, false) = (i + 4, false) := rstep_ok (by omega)
  have e5 : rstep Z len 4 (i + 4, false) = (i + 8, false) := rstep_ok (by omega)
  constructor
  · unfold rinstrS; rw [e1, e2, e3, e4, e5]
  · unfold rinstrV; rw [e1, e2, e3, e4, rval_ok (by omega), rval_ok (by omega), rval_ok (by omega), rval_ok (by omega), rval_ok (by omega), numAt_one, numAt_one, numAt_one, numAt_one]
theorem rinstr_over {Z : Nat → Int} {len i : Nat} (h : len < i + 8) (hi : i ≤ len) : (rinstrS Z len (i, false)).2 = true := by
  have s0 : ∀ j, rstep Z len 1 (j, true) = (j, true) := fun j => rstep_sh
  have s4 : ∀ j, rstep Z len 4 (j, true) = (j, true) := fun j => rstep_sh
  have ok : ∀ j, j + 1 ≤ len → rstep Z len 1 (j, false) = (j + 1, false) := fun j h => rstep_ok h
  have ov : ∀ j, len < j + 1 → rstep Z len 1 (j, false) = (j, true) := fun j h => rstep_over h
  have ov4 : ∀ j, len < j + 4 → rstep Z len 4 (j, false) = (j, true) := fun j h => rstep_over h
  unfold rinstrS
  rcases (by omega : len < i + 1 ∨ len = i + 1 ∨ len = i + 2 ∨ len = i + 3 ∨ (i + 4 ≤ len ∧ len < i + 8)) with h1 | h1 | h1 | h1 | ⟨h1, h2⟩
  · rw [ov i (by omega), s0, s0, s0, s4]
  · rw [ok i (by omega), ov _ (by omega), s0, s0, s4]
  · rw [ok i (by omega), ok _ (by omega), ov _ (by omega), s0, s4]
  · rw [ok i (by omega), ok _ (by omega), ok _ (by omega), ov _ (by omega), s4]
  · rw [ok i (by omega), ok _ (by omega), ok _ (by omega), ok _ (by omega), ov4 _ (by omega)]

def zeroInstr : Value := .agg #[.int .i64 0, .int .i64 0, .int .i64 0, .int .i64 0, .int .u32 0]

/-- A new reader over bytes that came in. -/
theorem RS.new {A : Option Addr} {len cap : Nat} {Z : Nat → Int} {w : World} (hl : len ≤ 1000000) (hsl : Sl w A len (fun i => .int .u8 (Z i))) (hz : ∀ i, i < len → 0 ≤ Z i ∧ Z i ≤ 255) :
    RS (w.alloc (.cells #[.slice A len cap, .int .i64 0, .bool false] 38)) w.heap.size A len cap Z (0, false) :=
  ⟨Blk.new w _ _, Nat.zero_le _, hl, hsl.below (Nat.le_refl _) ((Below.refl _ _).alloc (Nat.le_refl _) _), hz, fun hn b off e => by
    obtain ⟨b', off', e', hlt, _⟩ := hsl hn
    rw [e] at e'
    injection e' with e'
    injection e' with e1 _
    omega⟩

theorem below_set5 {w w1 : World} {g : Nat} (h : Below w.heap.size w w1) (hg : w.heap.size ≤ g) (u0 u1 u2 u3 u4 : Value) (o : Obj) :
    Below w.heap.size w ((((((w1.setCell ⟨g, 0, none⟩ u0).setCell ⟨g, 1, none⟩ u1).setCell ⟨g, 2, none⟩ u2).setCell ⟨g, 3, none⟩ u3).setCell ⟨g, 4, none⟩ u4).alloc o) := by
  have h5 := ((((h.setCell (p := ⟨g, 0, none⟩) hg u0).setCell (p := ⟨g, 1, none⟩) hg u1).setCell (p := ⟨g, 2, none⟩) hg u2).setCell (p := ⟨g, 3, none⟩) hg u3).setCell (p := ⟨g, 4, none⟩) hg u4
  exact h5.alloc h5.size o
theorem get_frame {w w1 : World} {A B : Obj} {g : Nat} (hg : ((w.alloc A).alloc B).grownBy w1 (some g)) (h : w.heap.size ≤ g) : Below w.heap.size w w1 :=
  (((Below.refl _ _).alloc (Nat.le_refl _) A).alloc (by simp) B).trans ⟨hg.os, hg.tape, hg.output, hg.size, fun i hi => hg.block i (by simp; omega) (by simp; omega)⟩

set_option maxHeartbeats 400000 in
theorem get_short (A : Option Addr) (len cap : Nat) (Z : Nat → Int) (w : World) (hl : len ≤ 1000000) (hlen : len < 8) (hsl : Sl w A len (fun i => .int .u8 (Z i))) (hz : ∀ i, i < len → 0 ≤ Z i ∧ Z i ≤ 255) :
    Calls Try.prog 8 #[.slice A len cap] w fun e w' => e = .returned (.tuple #[zeroInstr, .int .i64 2]) ∧ Below w.heap.size w w' := by
  have hB0 := (Below.refl w.heap.size w).alloc (Nat.le_refl _) (Obj.cells #[.int .i64 0, .int .i64 0, .int .i64 0, .int .i64 0, .int .u32 0] 24)
  have hq := Blk.new w 24 #[.int .i64 0, .int .i64 0, .int .i64 0, .int .i64 0, .int .u32 0]
  have hrs := RS.new (cap := cap) hl (hsl.below (Nat.le_refl _) hB0) hz
  have hsz : (w.alloc (Obj.cells #[.int .i64 0, .int .i64 0, .int .i64 0, .int .i64 0, .int .u32 0] 24)).heap.size = w.heap.size + 1 := by simp
  rw [hsz] at hrs
  clear hsz hB0
  go_enter Try.func8, Try.ntmps8
  go_wp2_with fail
  refine (instr_rs _ _ _ _ _ _ _ hrs).mono ?_
  rintro e w1 ⟨rfl, h1, hg1⟩
  have hq1 := (hq.alloc (.cells #[.slice A len cap, .int .i64 0, .bool false] 38)).grown hg1 (by simp)
  have hBel := get_frame hg1 (by omega)
  have k0 := hq1.cell 0
  have k1 := hq1.cell 1
  have k2 := hq1.cell 2
  have k3 := hq1.cell 3
  have k4 := hq1.cell 4
  have f0 := hq1.frozen 0
  have f1 := hq1.frozen 1
  have f2 := hq1.frozen 2
  have f3 := hq1.frozen 3
  have f4 := hq1.frozen 4
  simp only [List.getElem?_toArray, List.getElem?_cons_zero, List.getElem?_cons_succ] at k0 k1 k2 k3 k4
  have hlt1 := Blk.lt hq1
  have hlt2 := Blk.lt h1.rd
  have c2 := h1.rd.cell 2
  simp only [List.getElem?_toArray, List.getElem?_cons_zero, List.getElem?_cons_succ] at c2
  have hsh : (rinstrS Z len (0, false)).2 = true := rinstr_over (by omega) (by omega)
  rw [hsh] at c2
  unfold rinstrV
  go_wp2
  exact bodyPost_ret (v := .tuple #[zeroInstr, .int .i64 2]) (by simp [results, Try.results8, go_sem, k0, k1, k2, k3, k4, zeroInstr, hlt1]) rfl ⟨rfl, below_set5 hBel (Nat.le_refl _) _ _ _ _ _ _⟩

set_option maxHeartbeats 400000 in
theorem get_ok (A : Option Addr) (len cap : Nat) (Z : Nat → Int) (w : World) (hl : len ≤ 1000000) (hlen : 8 ≤ len) (hsl : Sl w A len (fun i => .int .u8 (Z i))) (hz : ∀ i, i < len → 0 ≤ Z i ∧ Z i ≤ 255) :
    Calls Try.prog 8 #[.slice A len cap] w fun e w' => e = .returned (.tuple #[.agg #[.int .i64 (Z 0), .int .i64 (Z 1), .int .i64 (Z 2), .int .i64 (Z 3), .int .u32 (numAt Z 4 4)], .int .i64 0]) ∧ Below w.heap.size w w' := by
  have hB0 := (Below.refl w.heap.size w).alloc (Nat.le_refl _) (Obj.cells #[.int .i64 0, .int .i64 0, .int .i64 0, .int .i64 0, .int .u32 0] 24)
  have hq := Blk.new w 24 #[.int .i64 0, .int .i64 0, .int .i64 0, .int .i64 0, .int .u32 0]
  have hrs := RS.new (cap := cap) hl (hsl.below (Nat.le_refl _) hB0) hz
  have hsz : (w.alloc (Obj.cells #[.int .i64 0, .int .i64 0, .int .i64 0, .int .i64 0, .int .u32 0] 24)).heap.size = w.heap.size + 1 := by simp
  rw [hsz] at hrs
  clear hsz hB0
  go_enter Try.func8, Try.ntmps8
  go_wp2_with fail
  refine (instr_rs _ _ _ _ _ _ _ hrs).mono ?_
  rintro e w1 ⟨rfl, h1, hg1⟩
  have hq1 := (hq.alloc (.cells #[.slice A len cap, .int .i64 0, .bool false] 38)).grown hg1 (by simp)
  have hBel := get_frame hg1 (by omega)
  have k0 := hq1.cell 0
  have k1 := hq1.cell 1
  have k2 := hq1.cell 2
  have k3 := hq1.cell 3
  have k4 := hq1.cell 4
  have f0 := hq1.frozen 0
  have f1 := hq1.frozen 1
  have f2 := hq1.frozen 2
  have f3 := hq1.frozen 3
  have f4 := hq1.frozen 4
  simp only [List.getElem?_toArray, List.getElem?_cons_zero, List.getElem?_cons_succ] at k0 k1 k2 k3 k4
  have hlt1 := Blk.lt hq1
  have hlt2 := Blk.lt h1.rd
  have c2 := h1.rd.cell 2
  simp only [List.getElem?_toArray, List.getElem?_cons_zero, List.getElem?_cons_succ] at c2
  obtain ⟨e1, e2⟩ := rinstr_ok (Z := Z) (len := len) (i := 0) (by omega)
  rw [e1] at c2
  rw [e2]
  go_wp2
  exact bodyPost_ret (v := .tuple #[.agg #[.int .i64 (Z 0), .int .i64 (Z 1), .int .i64 (Z 2), .int .i64 (Z 3), .int .u32 (numAt Z 4 4)], .int .i64 0]) (by simp [results, Try.results8, go_sem, k0, k1, k2, k3, k4, hlt1]) rfl ⟨rfl, below_set5 hBel (Nat.le_refl _) _ _ _ _ _ _⟩
end Go.Proofs.Ytlmhifnanhkcnaa
