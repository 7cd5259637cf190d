/- The contracts of the reader's number at any state, of small and instr, and of code.Get. -/
import Derived.Test.YtjmnogpnjombgaaDoorCodeNum
import Derived.Test.YtjmnogpnjombgaaDoorGrow
import Derived.Deep.RegionHeld3
namespace Go.Proofs.YtjmnogpnjombgaaDoor
open Go.RowKit
set_option linter.unusedVariables false
set_option maxRecDepth 100000

/-- What number answers, where the reader is then, and whether it is short. -/
def rnum (Z : Nat → Int) (len at_ : Nat) (sh : Bool) (size : Nat) : Int × Nat × Bool :=
  if sh = true ∨ len < at_ + size then (0, at_, true) else (numAt Z at_ size, at_ + size, false)
theorem rnum_ok {Z : Nat → Int} {len at_ size : Nat} (h : at_ + size ≤ len) : rnum Z len at_ false size = (numAt Z at_ size, at_ + size, false) := by
  unfold rnum; rw [if_neg (by simp; omega)]
theorem rnum_over {Z : Nat → Int} {len at_ size : Nat} {sh : Bool} (h : sh = true ∨ len < at_ + size) : rnum Z len at_ sh size = (0, at_, true) := by
  unfold rnum; rw [if_pos h]
theorem rnum_le {Z : Nat → Int} {len at_ size : Nat} {sh : Bool} (h : at_ ≤ len) : (rnum Z len at_ sh size).2.1 ≤ len := by
  unfold rnum; split
  · exact h
  · simp; omega

theorem only_drewN {a w : World} {row : Option Nat} (h : a.grownBy w row) (n : Nat) : a.grownBy (w.drewN n) row := ⟨h.os, h.tape, h.output, h.size, h.block⟩
theorem only_set {w : World} {g : Nat} (n j : Nat) (u : Value) : w.grownBy ((w.drewN n).setCell ⟨g, j, none⟩ u) (some g) :=
  ⟨rfl, rfl, rfl, by simp [World.setCell, World.drewN], fun i hi hne => (Below.heap_setCell (w.drewN n) ⟨g, j, none⟩ u i (fun e => hne (by rw [e]))).trans rfl⟩
theorem Rd.set_at {w : World} {r : Nat} {A : Option Addr} {len cap at_ : Nat} {sh : Bool} (h : Rd w r A len cap at_ sh) (n v : Nat) : Rd ((w.drewN n).setCell ⟨r, 1, none⟩ (.int .i64 (v : Int))) r A len cap v sh := by
  have h' : Blk w r 141 #[.slice A len cap, .int .i64 at_, .bool sh] := h
  have := (h'.drewN n).set_ 1 (.int .i64 (v : Int))
  exact this
theorem Rd.set_sh {w : World} {r : Nat} {A : Option Addr} {len cap at_ : Nat} {sh : Bool} (h : Rd w r A len cap at_ sh) (n : Nat) (b : Bool) : Rd ((w.drewN n).setCell ⟨r, 2, none⟩ (.bool b)) r A len cap at_ b := by
  have h' : Blk w r 141 #[.slice A len cap, .int .i64 at_, .bool sh] := h
  have := (h'.drewN n).set_ 2 (.bool b)
  exact this

theorem num_any (r : Nat) (A : Option Addr) (len cap at_ : Nat) (sh : Bool) (size : Int) (Z : Nat → Int) (w : World) (hr : Rd w r A len cap at_ sh) (hat : at_ ≤ len) (hl : len ≤ 1000000) (hs0 : 0 ≤ size) (hs : size ≤ 4)
    (hsl : Sl w A len (fun i => .int .u8 (Z i))) (hz : ∀ i, i < len → 0 ≤ Z i ∧ Z i ≤ 255) :
    Calls Tryd.prog 119 #[.pointer (some ⟨r, 0, none⟩), .int .i64 size] w fun e w' => e = .returned (.int .u32 (rnum Z len at_ sh size.toNat).1) ∧
      Rd w' r A len cap (rnum Z len at_ sh size.toNat).2.1 (rnum Z len at_ sh size.toNat).2.2 ∧ w.grownBy w' (some r) := by
  obtain ⟨s, rfl⟩ : ∃ s : Nat, size = s := ⟨size.toNat, by omega⟩
  rw [Int.toNat_natCast]
  by_cases h : sh = true ∨ len < at_ + s
  · rw [rnum_over h]
    by_cases hsh : sh = true
    · subst hsh
      refine (num_short r A len cap at_ s w hr).mono fun e w' ⟨he, n, hw⟩ => ?_
      subst hw
      exact ⟨he, hr.set_sh n true, only_set n 2 _⟩
    · have h3 : len < at_ + s := h.resolve_left hsh
      obtain rfl : sh = false := by simpa using hsh
      refine (num_over r A len cap at_ s w hr hat hl (by omega) (by omega)).mono fun e w' ⟨he, n, hw⟩ => ?_
      subst hw
      exact ⟨he, hr.set_sh n true, only_set n 2 _⟩
  · have h2 : ¬ len < at_ + s := fun hh => h (.inr hh)
    obtain rfl : sh = false := by simpa using fun hh => h (.inl hh)
    rw [rnum_ok (by omega)]
    refine (num_ok r A len cap at_ s Z w hr hl (by omega) (by omega) hsl hz).mono fun e w' ⟨he, n, hw⟩ => ?_
    subst hw
    exact ⟨he, hr.set_at n _, only_set n 1 _⟩

theorem rnum_range {Z : Nat → Int} {len at_ size : Nat} {sh : Bool} (hs : size ≤ 4) (hz : ∀ i, i < len → 0 ≤ Z i ∧ Z i ≤ 255) : 0 ≤ (rnum Z len at_ sh size).1 ∧ (rnum Z len at_ sh size).1 ≤ 4294967295 := by
  unfold rnum
  split
  · simp
  · rename_i h
    have h1 := numAt_lt Z size at_ (fun i hi => hz i (by omega))
    have h2 := Nat.pow_le_pow_right (show 256 > 0 by omega) hs
    have h3 : ((256 ^ size : Nat) : Int) ≤ ((256 ^ 4 : Nat) : Int) := by omega
    have h4 : ((256 ^ size : Nat) : Int) = (256 : Int) ^ size := by simp
    simp only
    omega

theorem small_any (r : Nat) (A : Option Addr) (len cap at_ : Nat) (sh : Bool) (size : Int) (Z : Nat → Int) (w : World) (hr : Rd w r A len cap at_ sh) (hat : at_ ≤ len) (hl : len ≤ 1000000) (hs0 : 0 ≤ size) (hs : size ≤ 4)
    (hsl : Sl w A len (fun i => .int .u8 (Z i))) (hz : ∀ i, i < len → 0 ≤ Z i ∧ Z i ≤ 255) :
    Calls Tryd.prog 96 #[.pointer (some ⟨r, 0, none⟩), .int .i64 size] w fun e w' => e = .returned (.int .i64 (rnum Z len at_ sh size.toNat).1) ∧
      Rd w' r A len cap (rnum Z len at_ sh size.toNat).2.1 (rnum Z len at_ sh size.toNat).2.2 ∧ w.grownBy w' (some r) := by
  have hrg := rnum_range (Z := Z) (len := len) (at_ := at_) (size := size.toNat) (sh := sh) (by omega) hz
  go_enter Tryd.func96, Tryd.ntmps96
  go_wp2_with fail
  refine (num_any r A len cap at_ sh size Z w hr hat hl hs0 hs hsl hz).mono ?_
  rintro e w1 ⟨rfl, hr1, hg1⟩
  go_wp2
  go_ret
  refine ⟨?_, hr1, hg1⟩
  simp

/-- The reader's state: where it is, whether it is short; and what five numbers leave. -/
def rstep (Z : Nat → Int) (len size : Nat) (s : Nat × Bool) : Nat × Bool := (rnum Z len s.1 s.2 size).2
def rval (Z : Nat → Int) (len size : Nat) (s : Nat × Bool) : Int := (rnum Z len s.1 s.2 size).1
def rinstrS (Z : Nat → Int) (len : Nat) (s : Nat × Bool) : Nat × Bool := rstep Z len 4 (rstep Z len 1 (rstep Z len 1 (rstep Z len 1 (rstep Z len 1 s))))
def rinstrV (Z : Nat → Int) (len : Nat) (s : Nat × Bool) : Value :=
  .agg #[.int .i64 (rval Z len 1 s), .int .i64 (rval Z len 1 (rstep Z len 1 s)), .int .i64 (rval Z len 1 (rstep Z len 1 (rstep Z len 1 s))), .int .i64 (rval Z len 1 (rstep Z len 1 (rstep Z len 1 (rstep Z len 1 s)))),
    .int .u32 (rval Z len 4 (rstep Z len 1 (rstep Z len 1 (rstep Z len 1 (rstep Z len 1 s)))))]
theorem rstep_le {Z : Nat → Int} {len size : Nat} {s : Nat × Bool} (h : s.1 ≤ len) : (rstep Z len size s).1 ≤ len := rnum_le h

/-- All that is known of a reader in a world. -/
structure RS (w : World) (r : Nat) (A : Option Addr) (len cap : Nat) (Z : Nat → Int) (s : Nat × Bool) : Prop where
  rd : Rd w r A len cap s.1 s.2
  le : s.1 ≤ len
  l : len ≤ 1000000
  sl : Sl w A len (fun i => .int .u8 (Z i))
  z : ∀ i, i < len → 0 ≤ Z i ∧ Z i ≤ 255
  ne : 0 < len → ∀ b off, A = some ⟨b, off, none⟩ → b ≠ r
section
variable {w w' : World} {r : Nat} {A : Option Addr} {len cap : Nat} {Z : Nat → Int} {s s' : Nat × Bool}
theorem RS.next (h : RS w r A len cap Z s) (hr : Rd w' r A len cap s'.1 s'.2) (hle : s'.1 ≤ len) (hg : w.grownBy w' (some r)) : RS w' r A len cap Z s' :=
  ⟨hr, hle, h.l, h.sl.grown hg h.ne, h.z, h.ne⟩
theorem RS.below (h : RS w r A len cap Z s) (hb : Below w.heap.size w w') : RS w' r A len cap Z s :=
  ⟨Blk.below h.rd hb (Blk.lt h.rd), h.le, h.l, h.sl.below (Nat.le_refl _) hb, h.z, h.ne⟩
/-- Another own block g is written, or grows: the reader stays. -/
theorem RS.other {g : Option Nat} (h : RS w r A len cap Z s) (hg : w.grownBy w' g) (h1 : g ≠ some r) (h2 : 0 < len → ∀ b off, A = some ⟨b, off, none⟩ → g ≠ some b) : RS w' r A len cap Z s :=
  ⟨Blk.grown h.rd hg (fun e => h1 e.symm), h.le, h.l, fun hn => by
    obtain ⟨b, off, rfl, hlt, hc⟩ := h.sl hn
    exact ⟨b, off, rfl, Nat.lt_of_lt_of_le hlt hg.size, fun i hi => (World.cell?_of_block (w := w) (a := ⟨b, off + i, none⟩) (hg.block b hlt (fun e => h2 hn b off rfl e.symm))).trans (hc i hi)⟩, h.z, h.ne⟩

theorem small_rs (size : Int) (hs0 : 0 ≤ size) (hs : size ≤ 4) (h : RS w r A len cap Z s) :
    Calls Tryd.prog 96 #[.pointer (some ⟨r, 0, none⟩), .int .i64 size] w fun e w' => e = .returned (.int .i64 (rval Z len size.toNat s)) ∧ RS w' r A len cap Z (rstep Z len size.toNat s) ∧ w.grownBy w' (some r) :=
  (small_any r A len cap s.1 s.2 size Z w h.rd h.le h.l hs0 hs h.sl h.z).mono fun _ _ ⟨he, hr, hg⟩ => ⟨he, h.next hr (rstep_le h.le) hg, hg⟩
theorem num_rs (size : Int) (hs0 : 0 ≤ size) (hs : size ≤ 4) (h : RS w r A len cap Z s) :
    Calls Tryd.prog 119 #[.pointer (some ⟨r, 0, none⟩), .int .i64 size] w fun e w' => e = .returned (.int .u32 (rval Z len size.toNat s)) ∧ RS w' r A len cap Z (rstep Z len size.toNat s) ∧ w.grownBy w' (some r) :=
  (num_any r A len cap s.1 s.2 size Z w h.rd h.le h.l hs0 hs h.sl h.z).mono fun _ _ ⟨he, hr, hg⟩ => ⟨he, h.next hr (rstep_le h.le) hg, hg⟩
theorem small1_rs (h : RS w r A len cap Z s) :
    Calls Tryd.prog 96 #[.pointer (some ⟨r, 0, none⟩), .int .i64 1] w fun e w' => e = .returned (.int .i64 (rval Z len 1 s)) ∧ RS w' r A len cap Z (rstep Z len 1 s) ∧ w.grownBy w' (some r) := small_rs 1 (by omega) (by omega) h
theorem small2_rs (h : RS w r A len cap Z s) :
    Calls Tryd.prog 96 #[.pointer (some ⟨r, 0, none⟩), .int .i64 2] w fun e w' => e = .returned (.int .i64 (rval Z len 2 s)) ∧ RS w' r A len cap Z (rstep Z len 2 s) ∧ w.grownBy w' (some r) := small_rs 2 (by omega) (by omega) h
theorem num4_rs (h : RS w r A len cap Z s) :
    Calls Tryd.prog 119 #[.pointer (some ⟨r, 0, none⟩), .int .i64 4] w fun e w' => e = .returned (.int .u32 (rval Z len 4 s)) ∧ RS w' r A len cap Z (rstep Z len 4 s) ∧ w.grownBy w' (some r) := num_rs 4 (by omega) (by omega) h
end
set_option maxHeartbeats 400000 in
theorem instr_rs (r : Nat) (A : Option Addr) (len cap : Nat) (s : Nat × Bool) (Z : Nat → Int) (w : World) (h : RS w r A len cap Z s) :
    Calls Tryd.prog 120 #[.pointer (some ⟨r, 0, none⟩)] w fun e w' => e = .returned (rinstrV Z len s) ∧ RS w' r A len cap Z (rinstrS Z len s) ∧ w.grownBy w' (some r) := by
  have hrl := Blk.lt h.rd
  have hB0 := (Below.refl w.heap.size w).alloc (Nat.le_refl _) (Obj.cells #[.int .i64 0, .int .i64 0, .int .i64 0, .int .i64 0, .int .u32 0] 54)
  have h0 := h.below hB0
  have hq0 := Blk.new w 54 #[.int .i64 0, .int .i64 0, .int .i64 0, .int .i64 0, .int .u32 0]
  have hg0 : w.grownBy (w.alloc (Obj.cells #[.int .i64 0, .int .i64 0, .int .i64 0, .int .i64 0, .int .u32 0] 54)) (some r) := ⟨hB0.os, hB0.tape, hB0.output, hB0.size, fun i hi _ => hB0.block i hi⟩
  go_enter Tryd.func120, Tryd.ntmps120
  go_wp2_with fail
  refine (small1_rs h0).mono ?_
  rintro e w1 ⟨rfl, h1, hg1⟩
  go_wp2_with fail
  refine (small1_rs h1).mono ?_
  rintro e w2 ⟨rfl, h2, hg2⟩
  go_wp2_with fail
  refine (small1_rs h2).mono ?_
  rintro e w3 ⟨rfl, h3, hg3⟩
  go_wp2_with fail
  refine (small1_rs h3).mono ?_
  rintro e w4 ⟨rfl, h4, hg4⟩
  go_wp2_with fail
  refine (num4_rs h4).mono ?_
  rintro e w5 ⟨rfl, h5, hg5⟩
  have hgr := grown_trans' (grown_trans' (grown_trans' (grown_trans' hg1 hg2) hg3) hg4) hg5
  have hq5 := hq0.grown hgr (by simp; omega)
  have hall := grown_trans' hg0 hgr
  have k0 := hq5.cell 0
  have k1 := hq5.cell 1
  have k2 := hq5.cell 2
  have k3 := hq5.cell 3
  have k4 := hq5.cell 4
  have f0 := hq5.frozen 0
  have f1 := hq5.frozen 1
  have f2 := hq5.frozen 2
  have f3 := hq5.frozen 3
  have f4 := hq5.frozen 4
  simp only [List.getElem?_toArray, List.getElem?_cons_zero, List.getElem?_cons_succ] at k0 k1 k2 k3 k4
  go_wp2
  have hA : ∀ b off, A = some ⟨b, off, none⟩ → 0 < len → b < w.heap.size := fun b off e hl => by
    obtain ⟨b', off', e', hlt, _⟩ := h.sl hl
    rw [e] at e'
    injection e' with e'
    injection e' with e1 _
    omega
  have hset : ∀ {W : World} (j : Nat) (u : Value), RS W r A len cap Z (rinstrS Z len s) → RS (W.setCell ⟨w.heap.size, j, none⟩ u) r A len cap Z (rinstrS Z len s) := fun j u hh =>
    ⟨Blk.far hh.rd (by simp; omega) u, hh.le, hh.l, fun hn => by
      obtain ⟨b, off, e, hlt, hc⟩ := hh.sl hn
      refine ⟨b, off, e, by simpa [World.setCell] using hlt, fun i hi => ?_⟩
      rw [World.cell?_setCell_far _ _ _ _ (by have := hA b off e hn; simp; omega)]
      exact hc i hi, hh.z, hh.ne⟩
  exact bodyPost_ret (v := rinstrV Z len s) (by simp [results, Tryd.results120, go_sem, k0, k1, k2, k3, k4, rinstrV]) rfl
    ⟨rfl, hset _ _ (hset _ _ (hset _ _ (hset _ _ (hset _ _ h5)))), grown_new (grown_new (grown_new (grown_new (grown_new hall (Nat.le_refl _) _) (Nat.le_refl _) _) (Nat.le_refl _) _) (Nat.le_refl _) _) (Nat.le_refl _) _⟩
end Go.Proofs.YtjmnogpnjombgaaDoor
