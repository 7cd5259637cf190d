/- Two rows of words that are the same. -/
import Derived.Test.YtidedjjpaoagjaaTraceVals2
import Derived.Deep.QuietTactic
import Derived.BigQuiet
namespace Go.Proofs.Ytidedjjpaoagjaa
open Go.ChangeShapes Go.WideShapes Go.ChangeAt Go.RowKit Go.Deep
set_option linter.unusedVariables false
set_option linter.unusedSimpArgs false

theorem words_yes (A B : Option Addr) (n ca cb : Nat) (L : List Int) (hn : n ≤ 1000000) (w : World) (h : Sl w A n (fun i => .int .u32 (L.getD i 0))) (h' : Sl w B n (fun i => .int .u32 (L.getD i 0))) :
    Calls Try.prog 14 #[.slice A n ca, .slice B n cb] w fun e w' => e = .returned (.bool true) ∧ ∃ q, w' = w.drewN q := by
  have H := Lib.hid (And.intro h h')
  clear h h'
  have hne : ((n : Int) != (n : Int)) = false := by simp
  go_enter Try.func14, Try.ntmps14
  go_wp2
  go_loopw [5] (fun i wr => ∃ k : Nat, k ≤ n ∧ i = .int .i64 k ∧ ∃ q, wr = w.drewN q) (fun i _ => n - (intOf i).toNat)
  case atStart => exact ⟨0, Nat.zero_le _, rfl, 0, rfl⟩
  case round =>
    obtain ⟨k, hk, rfl, q, rfl⟩ := hrel
    by_cases hkn : k < n
    · obtain ⟨b, off, rfl, hb, hc⟩ := H.out.1 (by omega)
      obtain ⟨b', off', rfl, hb', hc'⟩ := H.out.2 (by omega)
      have k0 := hc k hkn
      have j0 := hc' k hkn
      have hk0 : (0 : Int) ≤ (k : Int) := by omega
      have hk1 : (k : Int) < (n : Int) := by omega
      dsimp only at k0 j0
      clear hc hc'
      go_wp2
      go_quiet (fail)
      go_wp2
      go_roundw
      case rel => exact ⟨k + 1, by omega, by go_num, _, rfl⟩
      case measure => simp [intOf]; omega
    · obtain rfl : n = k := by omega
      have hk1 : ¬ (n : Int) < (n : Int) := by omega
      go_wp2
      go_ret
      exact ⟨rfl, _, rfl⟩
/-- An owned row of words, read. -/
theorem own_words {w : World} {base n : Nat} {v : Value} {L : List Int} (h : w.ownsRow base 29 1 v n (L.map (Value.int .u32))) : ∃ A cap, v = .slice A n cap ∧ n = L.length ∧ n ≤ cap ∧ Sl w A n (fun i => .int .u32 (L.getD i 0)) := by
  have hl : L.length = n := by have := h.1; simpa using this
  obtain ⟨A, cap, rfl, hc, hs⟩ := own_sl h
  refine ⟨A, cap, rfl, hl.symm, hc, ?_⟩
  rw [Nat.mul_one] at hs
  exact hs.congr fun i hi => by simp [List.getD_eq_getElem?_getD, List.getElem?_eq_getElem (show i < L.length by omega)]
def SelEndS (f : Ev → Bool) (E : Nat → Ev) (len : Nat) (w : World) (e : Ending) (W' : World) : Prop :=
  ∃ A n cap, e = .returned (.slice A n cap) ∧ n = (sel f E len).length ∧ n ≤ cap ∧ Sl W' A n (fun i => .int .u32 ((sel f E len).getD i 0)) ∧ Below w.heap.size w W'
theorem SelEnd.s {f : Ev → Bool} {E : Nat → Ev} {len : Nat} {w : World} {e : Ending} {W' : World} (h : SelEnd f E len w e W') : SelEndS f E len w e W' := by
  obtain ⟨v, rfl, hrow, hb⟩ := h
  obtain ⟨A, cap, rfl, hn, hc, hs⟩ := own_words hrow
  exact ⟨A, _, cap, rfl, rfl, hc, hs, hb⟩
end Go.Proofs.Ytidedjjpaoagjaa
