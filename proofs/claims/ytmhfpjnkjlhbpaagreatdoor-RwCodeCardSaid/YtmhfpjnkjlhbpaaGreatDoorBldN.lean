/- asm.Name at a name of letters. -/
import Derived.Test.YtmhfpjnkjlhbpaaGreatDoorBldI
import Derived.Laws.RangeString
import Derived.Deep.LoopGhost
import Derived.Lib.Strings
namespace Go.Proofs.YtmhfpjnkjlhbpaaGreatDoor
open Go.ChangeShapes Go.WideShapes Go.ChangeAt Go.RowKit Go.Deep
set_option linter.unusedVariables false
set_option maxRecDepth 100000
set_option linter.unusedSimpArgs false

set_option maxHeartbeats 2000000 in
theorem bname_at (s : ByteArray) (w : World) (h1 : ¬ s.toList = []) (h2 : s.size ≤ 20) (h : ∀ i (hi : i < s.size), 97 ≤ (s[i]'hi).toNat ∧ (s[i]'hi).toNat ≤ 122) :
    Calls Tryz.prog 138 #[.string s] w fun e w' => e = .returned (.bool true) ∧ w' = w.iter s s.size := by
  have H := Lib.hid h
  have h20 : ¬ (20 : Int) < (s.size : Int) := by omega
  have h1b : ¬ s.toList.isEmpty = true := fun e => h1 (List.isEmpty_iff.1 e)
  clear h
  go_enter Tryz.func138, Tryz.ntmps138
  go_wp2
  go_loopg [2] s.size (fun g s2 wx => ∃ i : Nat, i + g = s.size ∧ s2 = .bool false ∧ wx = w.iter s i)
  case atStart => exact ⟨0, by omega, rfl, rfl⟩
  case round =>
    obtain ⟨i, hig, rfl, rfl⟩ := hrel
    cases gk with
    | zero =>
      obtain rfl : i = s.size := by omega
      have hnx := run_next_end (P := Tryz.prog) w s s.size
      go_wp2
      go_ret
      exact ⟨rfl, rfl⟩
    | succ g =>
      have hi : i < s.size := by omega
      have ha := H.out i hi
      have hnx := fun ty => run_next_ascii (P := Tryz.prog) w s i ty hi (by omega)
      obtain ⟨c, hc⟩ : ∃ c, (s[i]'hi).toNat = c := ⟨_, rfl⟩
      rw [hc] at ha hnx
      have g1 : ¬ (c : Int) < 97 := by omega
      have g2 : ¬ (122 : Int) < (c : Int) := by omega
      clear hc
      go_wp2
      go_roundg g
      case measure => omega
      case rel => exact ⟨i + 1, by omega, rfl, rfl⟩
end Go.Proofs.YtmhfpjnkjlhbpaaGreatDoor
