/- Programs told by lists; programs of the same content; what reading answers, as a relation over the bytes. -/
import Derived.Test.YtjmnogpnjombgaaDoorCodeWords
import Derived.Test.YtjmnogpnjombgaaDoorIsaChk
import Derived.Test.YtjmnogpnjombgaaDoorCodeStep
namespace Go.Proofs.YtjmnogpnjombgaaDoor
open Go.ChangeShapes Go.WideShapes Go.ChangeAt Go.RowKit Go.Deep
set_option linter.unusedVariables false
set_option maxRecDepth 100000
set_option linter.unusedSimpArgs false

/-- The same content. -/
structure Rep (p q : Pg) : Prop where
  n : p.n = q.n
  m : p.m = q.m
  room : p.room = q.room
  len : ∀ t, t < p.n → (p.cd t).len = (q.cd t).len
  ins : ∀ t, t < p.n → ∀ i, i < (p.cd t).len → (p.cd t).F i = (q.cd t).F i
  z : ∀ i, i < p.m → p.Z i = q.Z i
theorem Rep.symm {p q : Pg} (h : Rep p q) : Rep q p :=
  ⟨h.n.symm, h.m.symm, h.room.symm, fun t ht => (h.len t (by rw [h.n]; exact ht)).symm, fun t ht i hi => (h.ins t (by rw [h.n]; exact ht) i (by rw [h.len t (by rw [h.n]; exact ht)]; exact hi)).symm, fun i hi => (h.z i (by rw [h.m]; exact hi)).symm⟩
theorem Rep.trans {p q r : Pg} (h : Rep p q) (k : Rep q r) : Rep p r :=
  ⟨h.n.trans k.n, h.m.trans k.m, h.room.trans k.room, fun t ht => (h.len t ht).trans (k.len t (by rw [← h.n]; exact ht)), fun t ht i hi => (h.ins t ht i hi).trans (k.ins t (by rw [← h.n]; exact ht) i (by rw [← h.len t ht]; exact hi)), fun i hi => (h.z i hi).trans (k.z i (by rw [← h.m]; exact hi))⟩
theorem goodCd_rep {c d : Cd} (hl : c.len = d.len) (hF : ∀ i, i < c.len → c.F i = d.F i) (h : goodCd c) : goodCd d :=
  ⟨by rw [← hl]; exact h.1, fun i hi => by rw [← hl, ← hF i (by rw [hl]; exact hi)]; exact h.2 i (by rw [hl]; exact hi)⟩
theorem chk_rep {p q : Pg} (r : Rep p q) {t j e : Int} (h : Chk p t j e) : Chk q t j e := by
  cases h with
  | args h => exact .args (by rw [← r.n, ← r.room]; exact h)
  | mem a1 a2 a3 a4 h => exact .mem (by rw [← r.n]; exact a1) (by rw [← r.n]; exact a2) (by rw [← r.room]; exact a3) (by rw [← r.room]; exact a4) (by rw [← r.m]; exact h)
  | long t a1 a2 a3 a4 a5 ht hg hl =>
    exact .long t (by rw [← r.n]; exact a1) (by rw [← r.n]; exact a2) (by rw [← r.room]; exact a3) (by rw [← r.room]; exact a4) (by rw [← r.m]; exact a5) (by rw [← r.n]; exact ht)
      (fun s hs => goodCd_rep (r.len s (by omega)) (r.ins s (by omega)) (hg s hs)) (by rw [← r.len t ht]; exact hl)
  | form t j a1 a2 a3 a4 a5 ht hg hl hj hi hb =>
    refine .form t j (by rw [← r.n]; exact a1) (by rw [← r.n]; exact a2) (by rw [← r.room]; exact a3) (by rw [← r.room]; exact a4) (by rw [← r.m]; exact a5) (by rw [← r.n]; exact ht)
      (fun s hs => goodCd_rep (r.len s (by omega)) (r.ins s (by omega)) (hg s hs)) (by rw [← r.len t ht]; exact hl) (by rw [← r.len t ht]; exact hj) (fun i h => ?_) ?_
    · rw [← r.len t ht, ← r.ins t ht i (by omega)]; exact hi i h
    · rw [← r.len t ht, ← r.ins t ht j hj]; exact hb
  | fine a1 a2 a3 a4 a5 hg =>
    exact .fine (by rw [← r.n]; exact a1) (by rw [← r.n]; exact a2) (by rw [← r.room]; exact a3) (by rw [← r.room]; exact a4) (by rw [← r.m]; exact a5) (fun s hs => goodCd_rep (r.len s (by rw [r.n]; exact hs)) (r.ins s (by rw [r.n]; exact hs)) (hg s (by rw [r.n]; exact hs)))

/-- The program that lists tell. -/
def absOf (LL : List (List Ins)) (M : List Int) (room : Int) : Pg :=
  ⟨none, LL.length, LL.length, fun t => ⟨none, (LL.getD t []).length, (LL.getD t []).length, fun i => (LL.getD t []).getD i default⟩, none, M.length, M.length, fun i => M.getD i 0, room⟩

/-- So many codes from a state on, and the state behind them. -/
def pl (Z : Nat → Int) (len : Nat) : Nat → Nat × Bool → List (List Ins)
  | 0, _ => []
  | k + 1, s => if s.2 = true then [] else codeL Z len s :: pl Z len k (codeS Z len s)
def ps (Z : Nat → Int) (len : Nat) : Nat → Nat × Bool → Nat × Bool
  | 0, s => s
  | k + 1, s => if s.2 = true then s else ps Z len k (codeS Z len s)
/-- The states of reading: at the room, at the memory, at the codes, at the end; the program read. -/
def st1 (Z : Nat → Int) (len : Nat) : Nat × Bool := rstep Z len 1 (3, false)
def st2 (Z : Nat → Int) (len : Nat) : Nat × Bool := rstep Z len 1 (st1 Z len)
def st3 (Z : Nat → Int) (len : Nat) : Nat × Bool := wordsS Z len (st2 Z len)
def rdN (Z : Nat → Int) (len : Nat) : Nat := (rval Z len 1 (3, false)).toNat
def st4 (Z : Nat → Int) (len : Nat) : Nat × Bool := ps Z len (rdN Z len) (st3 Z len)
def rdP (Z : Nat → Int) (len : Nat) : Pg := absOf (pl Z len (rdN Z len) (st3 Z len)) (wordsL Z len (st2 Z len)) (rval Z len 1 (st1 Z len))
def headZ (Z : Nat → Int) : Prop := Z 0 = 100 ∧ Z 1 = 108 ∧ Z 2 = 49
/-- Reading so many bytes ends at this place with this error. -/
inductive RdO (Z : Nat → Int) (len : Nat) : Int → Int → Prop
  | tiny : len < 3 → RdO Z len len 2
  | head : 3 ≤ len → ¬ headZ Z → RdO Z len 0 3
  | short : 3 ≤ len → headZ Z → (st4 Z len).2 = true → RdO Z len len 2
  | long : 3 ≤ len → headZ Z → (st4 Z len).2 = false → (st4 Z len).1 < len → RdO Z len (st4 Z len).1 4
  | form (t j e : Int) : 3 ≤ len → headZ Z → (st4 Z len).2 = false → len ≤ (st4 Z len).1 → Chk (rdP Z len) t j e → RdO Z len 0 e
theorem rdO_some (Z : Nat → Int) (len : Nat) : ∃ n e, RdO Z len n e := by
  by_cases h3 : len < 3
  · exact ⟨_, _, .tiny h3⟩
  by_cases hh : headZ Z
  · cases hs : (st4 Z len).2
    · by_cases hl : (st4 Z len).1 < len
      · exact ⟨_, _, .long (by omega) hh hs hl⟩
      · obtain ⟨t, j, e, hc⟩ := chk_some (rdP Z len)
        exact ⟨_, _, .form t j e (by omega) hh hs (by omega) hc⟩
    · exact ⟨_, _, .short (by omega) hh hs⟩
  · exact ⟨_, _, .head (by omega) hh⟩
def zeroPg : Value := .agg #[.slice none 0 0, .slice none 0 0, .int .i64 0]

end Go.Proofs.YtjmnogpnjombgaaDoor
