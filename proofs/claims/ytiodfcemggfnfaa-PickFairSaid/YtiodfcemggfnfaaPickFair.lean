/- PickFair returns true for every script of picks, every number of threads and every window, and leaves all old memory as it was. No condition. -/
import Derived.Test.YtiodfcemggfnfaaFairPick
namespace Go.Proofs.Ytiodfcemggfnfaa
open Go.ChangeShapes Go.WideShapes Go.ChangeAt Go.RowKit
set_option linter.unusedVariables false

/-- A slice of picks that came in. -/
theorem open_picks {H : Type} {enc : TypeId × Value → H} {W : World} {v : Value} {d : DataW H} {p : List MemPlace} {base : Nat}
    (hval : Value.okWide Try.prog W .any base 30 v) (h : DataW.Trod enc Try.prog W 0 (fun _ => true) true 30 v d p) (hlt : ∀ x ∈ p, x.block < W.heap.size) :
    ∃ (A : Option Addr) (len cap : Nat) (K V : Nat → Int), v = .slice A len cap ∧ len ≤ cap ∧ cap ≤ maxLen ∧ Sl W A (len * 2) (pickCells K V) := by
  obtain ⟨A, len, cap, F, rfl, h1, h2, h3, _⟩ := open_sl (size := 2) Try.underlying30 (by kernel_rfl) (by omega) (fun a : Int × Int => [.int .i64 a.1, .int .i64 a.2]) _
    (elem_int2 Try.underlying23 (by kernel_rfl) (by kernel_rfl) Try.underlying3 Try.underlying3) hval h hlt
  refine ⟨A, len, cap, fun i => (F i).1, fun i => (F i).2, rfl, h1, h2, fun hn => ?_⟩
  obtain ⟨b, off, rfl, hb, hc⟩ := h3 (by omega)
  refine ⟨b, off, rfl, hb, fun i hi => ?_⟩
  by_cases h2 : i % 2 = 0
  · have := hc (i / 2) (by omega) 0 _ rfl
    rw [show off + i / 2 * 2 + 0 = off + i from by omega] at this
    rw [this]
    unfold pickCells
    rw [if_pos h2]
  · have := hc (i / 2) (by omega) 1 _ rfl
    rw [show off + i / 2 * 2 + 1 = off + i from by omega] at this
    rw [this]
    unfold pickCells
    rw [if_neg h2]

theorem pickFair_long (A : Option Addr) (len cap : Nat) (t w : Int) (W : World) (hl : 400 < len) (hm : len ≤ maxLen) :
    Calls Try.prog 5 #[.slice A len cap, .int .i64 t, .int .i64 w] W fun e w' => e = .returned (.bool true) ∧ Below W.heap.size W w' := by
  unfold maxLen at hm
  go_enter Try.func5, Try.ntmps5
  have hl' : (400 : Int) < (len : Int) := by omega
  go_wp2_with fail
  refine (awake_any _).mono ?_
  rintro e w0 ⟨rfl, hb0⟩
  go_wp2_with fail
  refine (awake_any _).mono ?_
  rintro e w1 ⟨rfl, hb1⟩
  go_wp2
  go_ret
  exact ⟨rfl, step_below hb0 hb1⟩

theorem fair_any (A : Option Addr) (len cap : Nat) (K V : Nat → Int) (t w : Int) (W : World) (hl : len ≤ 1000000) (hw : w ≤ 9223372036854775807) (hsl : Sl W A (len * 2) (pickCells K V)) :
    Calls Try.prog 13 #[.slice A len cap, .int .i64 t, .int .i64 w] W (FairRes (FairP K V len t w) W) := by
  by_cases h : t < 1 ∨ 8 < t ∨ w < 4 * t
  · exact fair_no A len cap K V t w W h
  · obtain ⟨tn, rfl⟩ : ∃ tn : Nat, t = tn := ⟨t.toNat, by omega⟩
    obtain ⟨wn, rfl⟩ : ∃ wn : Nat, w = wn := ⟨w.toNat, by omega⟩
    exact fair_yes A len cap K V tn wn W (by omega) (by omega) (by omega) (by omega) hl hsl
theorem refFair_any (A : Option Addr) (len cap : Nat) (K V : Nat → Int) (t w : Int) (W : World) (hl : len ≤ 1000000) (hw : w ≤ 9223372036854775807) (h1 : -9223372036854775808 ≤ t) (h2 : t ≤ 9223372036854775807) (hsl : Sl W A (len * 2) (pickCells K V)) :
    Calls Try.prog 14 #[.slice A len cap, .int .i64 t, .int .i64 w] W (FairRes (FairP K V len t w) W) := by
  by_cases h : t < 1 ∨ 8 < t ∨ w < 4 * t
  · exact refFair_no A len cap K V t w W h h1 h2
  · obtain ⟨tn, rfl⟩ : ∃ tn : Nat, t = tn := ⟨t.toNat, by omega⟩
    obtain ⟨wn, rfl⟩ : ∃ wn : Nat, w = wn := ⟨w.toNat, by omega⟩
    exact refFair_yes A len cap K V tn wn W (by omega) (by omega) (by omega) (by omega) hl hsl

theorem pickFair_short (A : Option Addr) (len cap : Nat) (K V : Nat → Int) (t w : Int) (W : World) (hl : len ≤ 400) (hw : w ≤ 9223372036854775807) (h1 : -9223372036854775808 ≤ t) (h2 : t ≤ 9223372036854775807) (hsl : Sl W A (len * 2) (pickCells K V)) :
    Calls Try.prog 5 #[.slice A len cap, .int .i64 t, .int .i64 w] W fun e w' => e = .returned (.bool true) ∧ Below W.heap.size W w' := by
  go_enter Try.func5, Try.ntmps5
  have hl' : ¬ (400 : Int) < (len : Int) := by omega
  go_wp2_with fail
  refine (awake_any _).mono ?_
  rintro e w0 ⟨rfl, hb0⟩
  have hsl0 := hsl.below (Nat.le_refl _) hb0
  go_wp2_with fail
  refine (fair_any A len cap K V t w _ (by omega) hw hsl0).mono ?_
  rintro e w1 ⟨b1, rfl, hP1, hb1⟩
  have hsl1 := hsl0.below (Nat.le_refl _) hb1
  have HP1 := Lib.hid hP1
  clear hP1
  go_wp2_with fail
  refine (refFair_any A len cap K V t w _ (by omega) hw h1 h2 hsl1).mono ?_
  rintro e w2 ⟨b2, rfl, hP2, hb2⟩
  obtain rfl : b1 = b2 := by
    have := HP1.out.trans hP2.symm
    cases b1 <;> cases b2 <;> simp_all
  clear hP2
  go_wp2
  go_ret
  exact ⟨by simp, step_below (step_below hb0 hb1) hb2⟩

set_option maxRecDepth 100000 in
theorem pickFair_lifted (os : Os) (started : os.Started) (H : Type) (enc : TypeId × Value → H) :
    ReturnsInHanded {} Try.checked os 5 .any (Rows.pickFairSpec.pre6 enc Try.prog Try.f5 Rows.pickFairRow.domain false) (Rows.pickFairSpec.post enc Try.prog Try.f5 false true false false) := by
  refine law_lifted started (by kernel_rfl) Try.func5
    (ChangeSpec.witness6 (enc := enc) (C := Try.checked) false ⟨#[], #[.slice none 0 0, .int .i64 0, .int .i64 0], []⟩ 8 (by kernel_rfl) (by kernel_rfl) (by kernel_rfl) (by kernel_rfl))
    4 rfl (by kernel_rfl) Try.underlying4 (fun ds h => ?_) (by kernel_rfl) ?_
  · rw [show Try.f5.params.size = 3 from by kernel_rfl] at h
    match ds, h with
    | [_, _, _], _ => rfl
  intro W base args ds p hval hA hlt hsz
  rw [Try.params5] at hA hval hsz
  obtain ⟨v0, v1, v2, d0, d1, d2, p0, p1, p2, rfl, rfl, rfl, h0, h1, h2⟩ := trodAll_three hA
  obtain ⟨t, rfl, rfl, rfl, wt⟩ := open_int Try.underlying3 (hval 1 3 v1 rfl rfl) h1
  obtain ⟨w, rfl, rfl, rfl, ww⟩ := open_int Try.underlying3 (hval 2 3 v2 rfl rfl) h2
  obtain ⟨A, len, cap, K, V, rfl, hlc, hcm, hsl⟩ := open_picks (hval 0 30 v0 rfl rfl) h0 (fun x hx => hlt x (by simp [hx]))
  have ht := bounds_i64 wt
  have hw := bounds_i64 ww
  by_cases h : len ≤ 400
  · exact pickFair_short A len cap K V t w W h hw.2 ht.1 ht.2 hsl
  · exact pickFair_long A len cap t w W (by omega) (by omega)

theorem pickFair_holds : Rows.PickFairSaid :=
  OpenClaim.holds_of_wide 5 Try.f5 rfl rfl rfl rfl rfl rfl rfl ⟨rfl, rfl, rfl, rfl, rfl⟩ rfl rfl rfl rfl rfl (by kernel_rfl) Try.func5 (by kernel_rfl)
    (of_decide_eq_true (by kernel_rfl)) (by unfold Func.isWrapper; first | (rw [if_pos (by decide +kernel)]; kernel_rfl) | (rw [if_neg (by decide +kernel)]; exact ⟨rfl, rfl⟩))
    (fun os started H enc _ => pickFair_lifted os started H enc)
end Go.Proofs.Ytiodfcemggfnfaa
