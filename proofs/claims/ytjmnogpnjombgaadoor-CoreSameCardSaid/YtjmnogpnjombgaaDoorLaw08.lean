/- law08: a yard out of a world; long. -/
import Derived.Test.YtjmnogpnjombgaaDoorWorldIn
namespace Go.Proofs.YtjmnogpnjombgaaDoor
open Go.ChangeShapes Go.WideShapes Go.ChangeAt Go.RowKit Go.Deep
set_option linter.unusedVariables false
set_option maxRecDepth 100000
set_option linter.unusedSimpArgs false

/-- Where a yard's parts lie that was made of a world. -/
def ybOf (yb fg m bl fc room : Nat) (mv cv tv : Value) : YB := { yb := yb, wb := 0, xb := 0, ab := 0, bb := fg, mv := mv, n := m, bl := bl, bcap := fc, cv := cv, tv := tv, room := room, base := 0 }
theorem ypre_make {W : World} {base yb fg m bl fc room nb ns : Nat} {mv cv tv bv sv : Value} {mem : List Int} {buf slp : List (Int × Int)} {bvs : List Value} (h2 : 2 ≤ base) (hyb : base ≤ yb) (hb : Blk W yb 43 #[cv, tv, .slice (some ⟨fg, 0, none⟩) bl fc, mv, .int .i64 (room : Int), sv, .slice none 0 0, .bool false, .string ⟨#[]⟩])
    (hf : W.ownsRow base 27 1 (.slice (some ⟨fg, 0, none⟩) bl fc) bl bvs) (hbv : bvs[0]? = some bv) (hm : mem.length = m) (hnb : buf.length = nb) (hns : slp.length = ns)
    (r4 : W.ownsRow base 96 2 bv nb (buf.flatMap entc)) (r5 : W.ownsRow base 22 1 mv m (mem.map fun z => .int .u32 z)) (r6 : W.ownsRow base 98 2 sv ns (slp.flatMap slpc)) :
    YPre (ybOf yb fg m bl fc room mv cv tv) ⟨mem, buf, slp, [], ⟨#[]⟩⟩ (fun i => i = yb ∨ i = fg ∨ bv.ownBlock = some i ∨ mv.ownBlock = some i ∨ sv.ownBlock = some i) W := by
  subst hm hnb hns
  have hbl : 0 < bl := by
    have h1 := hf.1
    have := (List.getElem?_eq_some_iff.1 hbv).1
    omega
  obtain ⟨g, cap, e, _, _, ⟨cur, hfb⟩, hc, _, _⟩ := row_set hf (i := 0) hbl bv
  injection e with e _ e3
  injection e with e
  injection e with e _ _
  subst e
  have hc0 := hc _ hbv
  rw [hfb.cell] at hc0
  refine ⟨bv, sv, .slice none 0 0, cur, fun i hi => ?_, ⟨.inl rfl, .inr (.inl rfl)⟩, fun g hg => .inr (.inr (.inl hg)), fun g hg => .inr (.inr (.inr (.inl hg))), fun g hg => .inr (.inr (.inr (.inr hg))), fun g hg => (by cases hg), hb, hfb, hc0, hbl, rfl, own_base r4 (Nat.zero_le _), own_base r5 (Nat.zero_le _), own_base r6 (Nat.zero_le _), ⟨rfl, .inl ⟨rfl, rfl⟩⟩⟩
  have hfg : base ≤ fg := own_ge hf fg rfl
  rcases hi with rfl | rfl | hi | hi | hi
  · exact ⟨Nat.le_trans h2 hyb, hb.lt⟩
  · exact ⟨Nat.le_trans h2 hfg, hfb.lt⟩
  · exact ⟨Nat.le_trans h2 (own_in r4 i hi).1, (own_in r4 i hi).2⟩
  · exact ⟨Nat.le_trans h2 (own_in r5 i hi).1, (own_in r5 i hi).2⟩
  · exact ⟨Nat.le_trans h2 (own_in r6 i hi).1, (own_in r6 i hi).2⟩

def longB (cl bn m an : Nat) : Bool := decide (300 < cl) || decide (300 < bn) || decide (300 < m) || decide (7 < an)
set_option maxHeartbeats 4000000 in
theorem long_any (t : Th) (c : Cd) (bA : Option Addr) (bn bcap : Nat) (mA : Option Addr) (m mcap : Nat) (z : Nat) (aA : Option Addr) (an acap : Nat) (w : World) :
    Calls Tryd.prog 15 #[.agg (inArr t c bA bn bcap mA m mcap z aA an acap)] w fun e w' => e = .returned (.bool (longB c.len bn m an)) ∧ Below w.heap.size w w' := by
  have hB := (Below.refl w.heap.size w).alloc (Nat.le_refl _) (.cells (inArr t c bA bn bcap mA m mcap z aA an acap) 31)
  have HB := Lib.hid hB
  unfold inArr at hB HB ⊢
  clear hB
  have e1 : decide (300 < c.len) = decide ((300 : Int) < (c.len : Int)) := by simp; omega
  have e2 : decide (300 < bn) = decide ((300 : Int) < (bn : Int)) := by simp; omega
  have e3 : decide (300 < m) = decide ((300 : Int) < (m : Int)) := by simp; omega
  have e4 : decide (7 < an) = decide ((7 : Int) < (an : Int)) := by simp; omega
  unfold longB
  rw [e1, e2, e3, e4]
  clear e1 e2 e3 e4
  by_cases h1 : (300 : Int) < (c.len : Int)
  · go_enter Tryd.func15, Tryd.ntmps15
    go_wp2
    go_ret
    exact ⟨by simp [h1], HB.out⟩
  by_cases h2 : (300 : Int) < (bn : Int)
  · go_enter Tryd.func15, Tryd.ntmps15
    go_wp2
    go_ret
    exact ⟨by simp [h1, h2], HB.out⟩
  by_cases h3 : (300 : Int) < (m : Int)
  · go_enter Tryd.func15, Tryd.ntmps15
    go_wp2
    go_ret
    exact ⟨by simp [h1, h2, h3], HB.out⟩
  by_cases h4 : (7 : Int) < (an : Int)
  all_goals
    go_enter Tryd.func15, Tryd.ntmps15
    go_wp2
    go_ret
    exact ⟨by simp [h1, h2, h3, h4], HB.out⟩
end Go.Proofs.YtjmnogpnjombgaaDoor
