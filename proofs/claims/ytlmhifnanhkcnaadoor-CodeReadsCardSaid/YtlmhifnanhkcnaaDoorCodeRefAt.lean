/- The document's at: a number at a place; lists of what stands at places; which answer reading gives. -/
import Derived.Test.YtlmhifnanhkcnaaDoorCodePlace
import Derived.Test.YtlmhifnanhkcnaaDoorCodeRead
namespace Go.Proofs.YtlmhifnanhkcnaaDoor
open Go.ChangeShapes Go.WideShapes Go.ChangeAt Go.RowKit Go.Deep
set_option linter.unusedVariables false
set_option linter.unusedSimpArgs false

set_option maxHeartbeats 400000 in
theorem at_any (A : Option Addr) (len cap i size : Nat) (Z : Nat → Int) (w : World) (hl : len ≤ 1000000) (hs : size ≤ 4) (hov : i + size ≤ len)
    (hsl : Sl w A len (fun i => .int .u8 (Z i))) (hz : ∀ i, i < len → 0 ≤ Z i ∧ Z i ≤ 255) :
    Calls Tryd.prog 40 #[.slice A len cap, .int .i64 i, .int .i64 size] w fun e w' => e = .returned (.int .i64 (numAt Z i size)) ∧ w = w' := by
  go_enter Tryd.func40, Tryd.ntmps40
  go_wp2
  go_loop [7, 8] (fun n v => ∃ k : Nat, k ≤ size ∧ v = .int .i64 ((k : Int) - 1) ∧ n = .int .i64 (numAt Z (i + k) (size - k))) (fun _ v => (intOf v + 1).toNat)
  case atStart => exact ⟨size, Nat.le_refl _, rfl, by rw [Nat.sub_self]; rfl⟩
  case round =>
    obtain ⟨k, hk, rfl, rfl⟩ := hrel
    by_cases hk0 : k = 0
    · subst hk0
      go_wp2
      go_ret
      exact ⟨rfl, rfl⟩
    · obtain ⟨j, rfl⟩ : ∃ j, k = j + 1 := ⟨k - 1, by omega⟩
      obtain ⟨b, off, rfl, hbW, hcW⟩ := hsl (by omega)
      have hc0 := hcW (i + j) (by omega)
      have hz0 := hz (i + j) (by omega)
      have hj : ((j + 1 : Nat) : Int) - 1 = (j : Int) := by omega
      rw [hj]
      have hw4 : ((i : Int) + (j : Int)).toNat = i + j := by omega
      have hw5 : (i : Int) + (j : Int) < (len : Int) := by omega
      have hm := numAt_lt Z (size - (j + 1)) (i + (j + 1)) (fun i hi => hz i (by omega))
      have hm2 : numAt Z (i + j) (size - j) = Z (i + j) + 256 * numAt Z (i + (j + 1)) (size - (j + 1)) := by
        rw [show size - j = (size - (j + 1)) + 1 from by omega, numAt]; rfl
      have hm3 : numAt Z (i + (j + 1)) (size - (j + 1)) < 16777216 := by
        have : (256 : Int) ^ (size - (j + 1)) ≤ 256 ^ 3 := by
          have h := Nat.pow_le_pow_right (show 256 > 0 by omega) (show size - (j + 1) ≤ 3 by omega)
          have h2 : ((256 ^ (size - (j + 1)) : Nat) : Int) ≤ ((256 ^ 3 : Nat) : Int) := by omega
          simpa using h2
        omega
      have hm0 := hm.1
      have HM := Lib.hid hm2
      clear hm hm2
      generalize numAt Z (i + (j + 1)) (size - (j + 1)) = y at hm0 hm3 HM ⊢
      clear hcW
      dsimp only at hc0
      generalize Z (i + j) = z at hc0 hz0 HM ⊢
      obtain ⟨hz1, hz2⟩ := hz0
      go_wp2
      refine ⟨⟨j, by omega, rfl, ?_⟩, by simp [intOf]⟩
      rw [HM.out]
      go_num

/-- So many instructions from a place on; a code at a place; the codes; the words. -/
def insL (Z : Nat → Int) (i k : Nat) : List Ins := (List.range k).map fun j => insAt Z (i + 8 * j)
def codL (Z : Nat → Int) (i : Nat) : List Ins := insL Z (i + 2) (numAt Z i 2).toNat
def codesL (Z : Nat → Int) (a t : Nat) : List (List Ins) := (List.range t).map fun s => codL Z (codePos Z a s)
def memL (Z : Nat → Int) (k : Nat) : List Int := (List.range k).map fun j => numAt Z (7 + 4 * j) 4
section
variable {Z : Nat → Int} {len : Nat}
theorem insL_succ (i k : Nat) : insL Z i (k + 1) = insL Z i k ++ [insAt Z (i + 8 * k)] := by unfold insL; rw [List.range_succ, List.map_append]; rfl
theorem codesL_succ (a t : Nat) : codesL Z a (t + 1) = codesL Z a t ++ [codL Z (codePos Z a t)] := by unfold codesL; rw [List.range_succ, List.map_append]; rfl
theorem memL_succ (k : Nat) : memL Z (k + 1) = memL Z k ++ [numAt Z (7 + 4 * k) 4] := by unfold memL; rw [List.range_succ, List.map_append]; rfl
theorem insL_len (i k : Nat) : (insL Z i k).length = k := by simp [insL]
theorem codesL_len (a t : Nat) : (codesL Z a t).length = t := by simp [codesL]
theorem memL_len (k : Nat) : (memL Z k).length = k := by simp [memL]
theorem lists_rep : Rep (absOf (codesL Z (7 + 4 * memN Z) (Z 3).toNat) (memL Z (memN Z)) (Z 4)) (PgZ Z) := by
  have hcd : ∀ t, t < (Z 3).toNat → (codesL Z (7 + 4 * memN Z) (Z 3).toNat).getD t [] = codL Z (codePos Z (7 + 4 * memN Z) t) := fun t ht => getD_map_range _ _ _ _ ht
  have hn : (absOf (codesL Z (7 + 4 * memN Z) (Z 3).toNat) (memL Z (memN Z)) (Z 4)).n = (Z 3).toNat := codesL_len _ _
  refine ⟨hn, memL_len _, rfl, fun t ht => ?_, fun t ht i hi => ?_, fun i hi => ?_⟩
  · rw [hn] at ht
    show (List.getD _ t []).length = (numAt Z (codePos Z (7 + 4 * memN Z) t) 2).toNat
    rw [hcd t ht]
    exact insL_len _ _
  · rw [hn] at ht
    have hi' : i < (numAt Z (codePos Z (7 + 4 * memN Z) t) 2).toNat := by
      have h2 : i < (List.getD (codesL Z (7 + 4 * memN Z) (Z 3).toNat) t []).length := hi
      rw [hcd t ht] at h2
      unfold codL at h2
      rwa [insL_len] at h2
    show (List.getD _ t []).getD i default = insAt Z _
    rw [hcd t ht]
    exact getD_map_range _ _ _ _ hi'
  · have hi' : i < memN Z := by
      have h2 : i < (memL Z (memN Z)).length := hi
      rwa [memL_len] at h2
    exact getD_map_range _ _ _ _ hi'
theorem insAt_ok (hz : ∀ i, i < len → 0 ≤ Z i ∧ Z i ≤ 255) (i : Nat) (h : i + 8 ≤ len) : (insAt Z i).Ok := by
  have h0 := hz i (by omega)
  have h1 := hz (i + 1) (by omega)
  have h2 := hz (i + 2) (by omega)
  have h3 := hz (i + 3) (by omega)
  have h4 := numAt_lt Z 4 (i + 4) (fun j hj => hz j (by omega))
  unfold insAt
  constructor <;> dsimp only <;> omega
theorem codesL_ok (hz : ∀ i, i < len → 0 ≤ Z i ∧ Z i ≤ 255) (a t : Nat) (h : codePos Z a t ≤ len) : ∀ l ∈ codesL Z a t, ∀ q ∈ l, q.Ok := by
  intro l hl q hq
  obtain ⟨s, hs, rfl⟩ := List.mem_map.1 hl
  have hs' : s < t := by simpa using hs
  obtain ⟨j, hj, rfl⟩ := List.mem_map.1 hq
  have hj' : j < (numAt Z (codePos Z a s) 2).toNat := by simpa using hj
  have hm : codeEnd Z (codePos Z a s) ≤ codePos Z a t := codePos_mono (Z := Z) a (show s + 1 ≤ t by omega)
  unfold codeEnd at hm
  exact insAt_ok hz _ (by omega)
theorem memL_ok (hz : ∀ i, i < len → 0 ≤ Z i ∧ Z i ≤ 255) (k : Nat) (h : 7 + 4 * k ≤ len) : ∀ z ∈ memL Z k, 0 ≤ z ∧ z ≤ 4294967295 := by
  intro z hz'
  obtain ⟨j, hj, rfl⟩ := List.mem_map.1 hz'
  have hj' : j < k := by simpa using hj
  have := numAt_lt Z 4 (7 + 4 * j) (fun i hi => hz i (by omega))
  omega

variable {n e : Int}
theorem rdO_tiny (h3 : len < 3) (hO : RdO Z len n e) : n = len ∧ e = 2 := by
  cases hO with
  | tiny _ => exact ⟨rfl, rfl⟩
  | head h _ => omega
  | short h _ _ => omega
  | long h _ _ _ => omega
  | form t j e h _ _ _ _ => omega
theorem rdO_head (h3 : 3 ≤ len) (hh : ¬ headZ Z) (hO : RdO Z len n e) : n = 0 ∧ e = 3 := by
  cases hO with
  | tiny h => omega
  | head _ _ => exact ⟨rfl, rfl⟩
  | short _ h _ => exact absurd h hh
  | long _ h _ _ => exact absurd h hh
  | form t j e _ h _ _ _ => exact absurd h hh
theorem rdO_short (h3 : 3 ≤ len) (hh : headZ Z) (hl : len < endZ Z) (hO : RdO Z len n e) : n = len ∧ e = 2 := by
  have hs := st4_no h3 hl
  cases hO with
  | tiny h => omega
  | head _ h => exact absurd hh h
  | short _ _ _ => exact ⟨rfl, rfl⟩
  | long _ _ h _ => rw [hs] at h; cases h
  | form t j e _ _ h _ _ => rw [hs] at h; cases h
theorem rdO_long (h3 : 3 ≤ len) (hh : headZ Z) (hl : endZ Z < len) (hO : RdO Z len n e) : n = endZ Z ∧ e = 4 := by
  obtain ⟨hs, _⟩ := st4_ok (Z := Z) (len := len) (by omega)
  cases hO with
  | tiny h => omega
  | head _ h => exact absurd hh h
  | short _ _ h => rw [hs] at h; cases h
  | long _ _ _ _ => rw [hs]; exact ⟨rfl, rfl⟩
  | form t j e _ _ _ h _ => rw [hs] at h; exact absurd h (by show ¬ len ≤ endZ Z; omega)
theorem rdO_form (h3 : 3 ≤ len) (hh : headZ Z) (hl : endZ Z = len) (hO : RdO Z len n e) : n = 0 ∧ ∃ t j, Chk (rdP Z len) t j e := by
  obtain ⟨hs, _⟩ := st4_ok (Z := Z) (len := len) (by omega)
  cases hO with
  | tiny h => omega
  | head _ h => exact absurd hh h
  | short _ _ h => rw [hs] at h; cases h
  | long _ _ _ h => rw [hs] at h; exact absurd h (by show ¬ endZ Z < len; omega)
  | form t j e _ _ _ _ h => exact ⟨rfl, t, j, h⟩
end
end Go.Proofs.YtlmhifnanhkcnaaDoor
