/- The document's Small at 2000, and the anchor 'awake' of layer 3: both end, and awake is true. -/
import Derived.Test.YtlmhifnanhkcnaaDoorCodeRefW
import Derived.Test.YtlmhifnanhkcnaaDoorCodeAwake
namespace Go.Proofs.YtlmhifnanhkcnaaDoor
open Go.ChangeShapes Go.WideShapes Go.ChangeAt Go.RowKit Go.Deep
set_option linter.unusedVariables false
set_option linter.unusedSimpArgs false

/-- Bytes that can be read, as a string. -/
theorem conv_sl {w : World} {A : Option Addr} {L : List Int} {n cap : Nat} (hn : L.length = n) (h0 : 0 < n) (h : Sl w A n (fun i => .int .u8 (L.getD i 0))) :
    (convert 50 9 (.slice A n cap)).run Tryd.prog w = .ok (.string (strOfNums L)) w := by
  obtain ⟨b, off, rfl, hlt, hc⟩ := h h0
  exact run_convert_bytes_arg w 50 5 Tryd.underlying50 Tryd.underlying5 b off n cap L hn (fun i hi => hc i hi) 9 Tryd.underlying9

set_option maxHeartbeats 2000000 in
theorem few_any (p : Pg) (ho : p.Ok) (w : World) (ha : p.At w) :
    Calls Tryd.prog 25 #[p.val, .int .i64 2000] w fun e w' => (∃ r, e = .returned (.bool r)) ∧ Below w.heap.size w w' := by
  obtain ⟨A, n, cap, cd, mA, m, mcap, Z, room⟩ := p
  obtain ⟨hl, hm, _, _, cds, _, _, _⟩ := ho
  obtain ⟨hcodes, hcode, _⟩ := ha
  unfold Pg.val
  dsimp only at *
  unfold maxLen at hm
  have hB := (Below.refl w.heap.size w).alloc (Nat.le_refl _) (Obj.cells #[.slice A n cap, .slice mA m mcap, .int .i64 room] 38)
  have hq := Blk.new w 38 #[.slice A n cap, .slice mA m mcap, .int .i64 room]
  have HS := Lib.hid hcodes
  have HO := Lib.hid cds
  clear hcodes hcode cds
  go_enter Tryd.func25, Tryd.ntmps25
  go_wp2
  obtain ⟨w0, hw0⟩ : ∃ w0, w.alloc (Obj.cells #[.slice A n cap, .slice mA m mcap, .int .i64 room] 38) = w0 := ⟨_, rfl⟩
  rw [hw0] at hB hq ⊢
  clear hw0
  have q0 := hq.cell 0
  have q1 := hq.cell 1
  simp only [List.getElem?_toArray, List.getElem?_cons_zero, List.getElem?_cons_succ] at q0 q1
  have HQ := Lib.hid q1
  clear hq q1
  go_loopw [5, 6] (fun s v wr => ∃ (k : Nat) (z : Int), k ≤ n ∧ v = .int .i64 k ∧ s = .int .i64 z ∧ 0 ≤ z ∧ z ≤ 4001 ∧ wr = w0) (fun _ v _ => n - (intOf v).toNat)
  case atStart => exact ⟨0, 0, Nat.zero_le _, rfl, rfl, by omega, by omega, rfl⟩
  case round =>
    obtain ⟨k, z, hk, rfl, rfl, hz0, hz1, rfl⟩ := hrel
    by_cases hc : k < n ∧ z ≤ 2000
    · obtain ⟨hkn, hz5⟩ := hc
      obtain ⟨b, off, rfl, hlt, hcc⟩ := HS.out.step hB (by omega)
      have hcell := hcc k hkn
      have hok := HO.out k hkn
      obtain ⟨hl', hm', _⟩ := hok
      unfold Cd.val at hcell
      dsimp only at hcell
      unfold maxLen at hm'
      clear hcc
      generalize (cd k).A = A' at *
      generalize (cd k).cap = c' at *
      generalize (cd k).len = l' at *
      have hk0 : (k : Int) < (n : Int) := by omega
      go_wp2
      go_roundw
      case rel => exact ⟨k + 1, _, by omega, by go_num, rfl, by split <;> omega, by split <;> omega, by trivial⟩
      case measure => simp [intOf]; omega
    · have q1 := HQ.out
      by_cases hkn : (k : Int) < (n : Int)
      · have hz5 : ¬ z ≤ 2000 := by omega
        go_wp2_with fail
        go_ret
        exact ⟨by first | exact .inl rfl | exact .inr rfl, hB⟩
      · by_cases hz5 : z ≤ 2000
        · by_cases hm5 : (m : Int) ≤ 2000
          · by_cases hn5 : (n : Int) ≤ 100
            all_goals
              go_wp2_with fail
              go_ret
              exact ⟨by first | exact .inl rfl | exact .inr rfl, hB⟩
          · go_wp2_with fail
            go_ret
            exact ⟨by first | exact .inl rfl | exact .inr rfl, hB⟩
        · go_wp2_with fail
          go_ret
          exact ⟨by first | exact .inl rfl | exact .inr rfl, hB⟩
end Go.Proofs.YtlmhifnanhkcnaaDoor
