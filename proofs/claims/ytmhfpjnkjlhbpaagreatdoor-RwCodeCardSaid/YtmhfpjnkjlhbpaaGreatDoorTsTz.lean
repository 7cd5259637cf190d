/- RwCode. -/
import Derived.Test.YtmhfpjnkjlhbpaaGreatDoorTsA4
namespace Go.Proofs.YtmhfpjnkjlhbpaaGreatDoor
open Go.ChangeShapes Go.WideShapes Go.ChangeAt Go.RowKit Go.Deep
set_option linter.unusedVariables false
set_option maxRecDepth 100000
set_option linter.unusedSimpArgs false
theorem t0_ok {p : Pg} {B : MB} (ho : p.Ok) (h : NewM p B) : TOk B (t0 p) where
  ok := ⟨by show (List.replicate p.n tha).length = _; rw [List.length_replicate, h.n], fun t ht => by rw [(List.mem_replicate.1 ht).2]; exact tha_regs, fun z hz => by
    obtain ⟨i, hi, rfl⟩ := List.mem_map.1 hz
    exact ho.z0 i (List.mem_range.1 hi), fun b hb e he => (by rw [(List.mem_replicate.1 hb).2] at he; cases he), ⟨List.nodup_nil, fun x hx => by cases hx⟩⟩
  bl := by show (List.replicate p.n _).length = _; rw [List.length_replicate, h.n]
theorem tot_nil (n : Nat) : tot (List.replicate n []) = 0 := by
  induction n with
  | zero => rfl
  | succ n ih => rw [List.replicate_succ]; simp [tot] at ih ⊢
theorem t0_can {p : Pg} {B : MB} (hn : p.n ≤ 8) (n : Nat) (h : n ≤ 9000) : mCan B n (t0 p) :=
  ⟨by show 0 + tot (List.replicate p.n []) + n ≤ _; rw [tot_nil]; omega, by show 0 + n ≤ _; omega, fun x hx => (by cases hx), fun b hb e he => (by rw [(List.mem_replicate.1 hb).2] at he; cases he), by show (List.replicate p.n tha).length ≤ 8; rw [List.length_replicate]; exact hn⟩
end Go.Proofs.YtmhfpjnkjlhbpaaGreatDoor
