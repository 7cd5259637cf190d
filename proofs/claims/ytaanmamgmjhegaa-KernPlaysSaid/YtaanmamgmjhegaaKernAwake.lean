/- The anchor of layer 6, and equal rows of numbers. -/
import Derived.Test.YtaanmamgmjhegaaKernE
import Derived.Deep.QuietTactic
import Derived.BigQuiet
namespace Go.Proofs.Ytaanmamgmjhegaa
open Go.ChangeShapes Go.WideShapes Go.ChangeAt Go.RowKit Go.Deep
set_option linter.unusedVariables false
set_option linter.unusedSimpArgs false

/-- A queue that nobody sleeps in. -/
theorem K.new (w : World) : K (w.alloc (.cells #[.slice none 0 0] 58)) w.heap.size (w.heap.size + 1) (.slice none 0 0) [] :=
  ⟨Blk.new w _ _, ⟨rfl, .inl ⟨rfl, rfl⟩⟩, by omega⟩

set_option maxHeartbeats 1000000 in
theorem kernAwake_any (w : World) : Calls Try.prog 23 #[] w fun e w' => e = .returned (.bool true) ∧ Below w.heap.size w w' := by
  have hk := K.new w
  have hB0 := (Below.refl w.heap.size w).alloc (Nat.le_refl _) (.cells #[.slice none 0 0] 58)
  have hsz : (w.alloc (.cells #[.slice none 0 0] 58)).heap.size = w.heap.size + 1 := by simp
  have c1 := sleep_yes w.heap.size (w.heap.size + 1) (.slice none 0 0) [] (by simp) 1 5 (by decide) _ hk (by rw [hsz]; exact Nat.le_refl _)
  have HB := Lib.hid (And.intro hk (And.intro hB0 hsz))
  clear hk hB0 hsz
  go_enter Try.func23, Try.ntmps23
  go_wp2_with fail
  refine c1.mono ?_
  rintro e w1 ⟨rfl, v1, hk1, hs1⟩
  have hz1 : w.heap.size + 1 ≤ w1.heap.size := Nat.le_trans (by rw [HB.out.2.2]; exact Nat.le_refl _) hs1.size
  have hB1 := HB.out.2.1.trans (hs1.below HB.out.1 (Nat.le_refl _))
  have c2 := sleep_yes w.heap.size (w.heap.size + 1) v1 [(1, 5)] (by simp) 2 5 (by decide) _ hk1 hz1
  clear c1 hs1
  go_wp2_with fail
  refine c2.mono ?_
  rintro e w2 ⟨rfl, v2, hk2, hs2⟩
  have hz2 : w.heap.size + 1 ≤ w2.heap.size := Nat.le_trans hz1 hs2.size
  have hB2 := hB1.trans (hs2.below hk1 (Nat.le_refl _))
  have c3 := wake_any w.heap.size (w.heap.size + 1) v2 [(1, 5), (2, 5)] (by simp) 5 1 (by omega) _ hk2 hz2
  clear c2 hs2 hk1 hB1
  go_wp2_with fail
  refine c3.mono ?_
  rintro e w3 ⟨v3, ov, rfl, hk3, _, ho, hs3⟩
  have hB3 := hB2.trans (hs3.below hk2 (Nat.le_refl _))
  rw [show wk 5 1 [(1, 5), (2, 5)] = ([(2, 5)], [1]) from by decide] at ho
  obtain ⟨oA, oc, rfl, _, hsl⟩ := own_sl ho
  obtain ⟨b, off, rfl, _, hc⟩ := hsl (by decide)
  have k0 : w3.cell? ⟨b, off + 0, none⟩ = some (.int .i64 1) := hc 0 (by decide)
  rw [Nat.add_zero] at k0
  clear hk3 ho hs3 hsl hc c3 hk2 hB2
  go_wp2
  go_ret
  exact ⟨rfl, hB3⟩

theorem numbers_eq (A B : Option Addr) (n ca cb : Nat) (L : List Int) (hn : n ≤ 1000000) (w : World) (h : Sl w A n (fun i => .int .i64 (L.getD i 0))) (h' : Sl w B n (fun i => .int .i64 (L.getD i 0))) :
    Calls Try.prog 27 #[.slice A n ca, .slice B n cb] w fun e w' => e = .returned (.bool true) ∧ ∃ q, w' = w.drewN q := by
  have H := Lib.hid (And.intro h h')
  clear h h'
  have hne : ((n : Int) != (n : Int)) = false := by simp
  go_enter Try.func27, Try.ntmps27
  go_wp2
  go_loopw [5] (fun i wr => ∃ k : Nat, k ≤ n ∧ i = .int .i64 k ∧ ∃ q, wr = w.drewN q) (fun i _ => n - (intOf i).toNat)
  case atStart => exact ⟨0, Nat.zero_le _, rfl, 0, rfl⟩
  case round =>
    obtain ⟨k, hk, rfl, q, rfl⟩ := hrel
    by_cases hkn : k < n
    · obtain ⟨b, off, rfl, hb, hc⟩ := H.out.1 (by omega)
      obtain ⟨b', off', rfl, hb', hc'⟩ := H.out.2 (by omega)
      have k0 := hc k hkn
      have j0 := hc' k hkn
      have hk0 : (0 : Int) ≤ (k : Int) := by omega
      have hk1 : (k : Int) < (n : Int) := by omega
      dsimp only at k0 j0
      clear hc hc'
      go_wp2
      go_quiet (fail)
      go_wp2
      go_roundw
      case rel => exact ⟨k + 1, by omega, by go_num, _, rfl⟩
      case measure => simp [intOf]; omega
    · obtain rfl : n = k := by omega
      have hk1 : ¬ (n : Int) < (n : Int) := by omega
      go_wp2
      go_ret
      exact ⟨rfl, _, rfl⟩
/-- An owned row of numbers, read. -/
theorem own_ints {w : World} {base n : Nat} {v : Value} {L : List Int} (h : w.ownsRow base 3 1 v n (L.map (Value.int .i64))) : ∃ A cap, v = .slice A n cap ∧ n = L.length ∧ n ≤ cap ∧ Sl w A n (fun i => .int .i64 (L.getD i 0)) := by
  have hl : L.length = n := by have := h.1; simpa using this
  obtain ⟨A, cap, rfl, hc, hs⟩ := own_sl h
  refine ⟨A, cap, rfl, hl.symm, hc, ?_⟩
  rw [Nat.mul_one] at hs
  exact hs.congr fun i hi => by simp [List.getD_eq_getElem?_getD, List.getElem?_eq_getElem (show i < L.length by omega)]
end Go.Proofs.Ytaanmamgmjhegaa
