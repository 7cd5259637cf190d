/- The document's Same answers true of programs of the same content. -/
import Derived.Test.YtlmhifnanhkcnaaDoorCodePg
import Derived.Test.YtlmhifnanhkcnaaDoorRow
import Derived.Deep.QuietTactic
import Derived.BigQuiet
namespace Go.Proofs.YtlmhifnanhkcnaaDoor
open Go.ChangeShapes Go.WideShapes Go.ChangeAt Go.RowKit Go.Deep
set_option linter.unusedVariables false
set_option linter.unusedSimpArgs false

set_option maxRecDepth 100000 in
set_option maxHeartbeats 4000000 in
theorem same_rep (p q : Pg) (hr : Rep p q) (hp : p.Ok) (hq : q.Ok) (w : World) (hap : p.At w) (haq : q.At w) :
    Calls Tryd.prog 30 #[p.val, q.val] w fun e w' => e = .returned (.bool true) ∧ Below w.heap.size w w' := by
  obtain ⟨A, n, cap, cd, mA, m, mcap, Z, room⟩ := p
  obtain ⟨A', n', cap', cd', mA', m', mcap', Z', room'⟩ := q
  obtain ⟨rn, rm, rr, rl, ri, rz⟩ := hr
  obtain ⟨hl, hm, ml, mm, hcd, _, _, _⟩ := hp
  dsimp only at rn rm rr rl ri rz hl hm ml mm hcd
  subst rn rm rr
  unfold Pg.val
  dsimp only
  have hn9 : n ≤ 9223372036854775807 := by unfold maxLen at hm; omega
  have hm9 : m ≤ 9223372036854775807 := by unfold maxLen at mm; omega
  have HD := Lib.hid (show ∀ t, t < n → (cd t).len ≤ 9223372036854775807 from fun t ht => by have := (hcd t ht).hl; have h2 := (hcd t ht).hm; unfold maxLen at h2; omega)
  clear hl hm ml mm hcd hq
  have hB := ((Below.refl w.heap.size w).alloc (Nat.le_refl _) (Obj.cells #[.slice A n cap, .slice mA m mcap, .int .i64 room] 38)).alloc (by simp) (Obj.cells #[.slice A' n cap', .slice mA' m mcap', .int .i64 room] 38)
  have hx := (Blk.new w 38 #[.slice A n cap, .slice mA m mcap, .int .i64 room]).alloc (Obj.cells #[.slice A' n cap', .slice mA' m mcap', .int .i64 room] 38)
  have hy := Blk.new2 w (Obj.cells #[.slice A n cap, .slice mA m mcap, .int .i64 room] 38) 38 #[.slice A' n cap', .slice mA' m mcap', .int .i64 room]
  have hne1 : ((n : Int) != (n : Int)) = false := by simp
  have hne2 : ((m : Int) != (m : Int)) = false := by simp
  have hne3 : (room != room) = false := by simp
  have HA := Lib.hid (And.intro (hap.step hB) (haq.step hB))
  have HR := Lib.hid (And.intro rl (And.intro ri rz))
  clear hap haq rl ri rz
  go_enter Tryd.func30, Tryd.ntmps30
  go_wp2
  obtain ⟨w0, hw0⟩ : ∃ w0, (w.alloc (Obj.cells #[.slice A n cap, .slice mA m mcap, .int .i64 room] 38)).alloc (Obj.cells #[.slice A' n cap', .slice mA' m mcap', .int .i64 room] 38) = w0 := ⟨_, rfl⟩
  rw [hw0] at hB hx hy HA ⊢
  clear hw0
  have x0 := hx.cell 0
  have x1 := hx.cell 1
  have y0 := hy.cell 0
  have y1 := hy.cell 1
  simp only [List.getElem?_toArray, List.getElem?_cons_zero, List.getElem?_cons_succ] at x0 x1 y0 y1
  have HX := Lib.hid (And.intro x0 y0)
  clear hx hy x0 y0
  go_loopw [5] (fun i wr => ∃ k : Nat, k ≤ m ∧ i = .int .i64 k ∧ ∃ q, wr = w0.drewN q) (fun i _ => m - (intOf i).toNat)
  case atStart => exact ⟨0, Nat.zero_le _, rfl, 0, rfl⟩
  case round =>
    obtain ⟨k, hk, rfl, q, rfl⟩ := hrel
    by_cases hkm : k < m
    · obtain ⟨b, off, rfl, hb, hc⟩ := HA.out.1.mem (show 0 < m by omega)
      obtain ⟨b', off', rfl, hb', hc'⟩ := HA.out.2.mem (show 0 < m by omega)
      have k0 : w0.cell? ⟨b, off + k, none⟩ = some (.int .u32 (Z k)) := hc k hkm
      have j0 : w0.cell? ⟨b', off' + k, none⟩ = some (.int .u32 (Z' k)) := hc' k hkm
      rw [← HR.out.2.2 k hkm] at j0
      have hk0 : (0 : Int) ≤ (k : Int) := by omega
      have hk1 : (k : Int) < (m : Int) := by omega
      clear hc hc'
      go_wp2
      go_quiet (fail)
      go_wp2
      go_roundw
      case rel => exact ⟨k + 1, by omega, by go_num, _, rfl⟩
      case measure => simp [intOf]; omega
    · obtain rfl : m = k := by omega
      have hk1 : ¬ (m : Int) < (m : Int) := by omega
      go_wp2
      clear x1 y1
      obtain ⟨x0, y0⟩ := HX.out
      go_loopw [6] (fun i wr => ∃ k : Nat, k ≤ n ∧ i = .int .i64 k ∧ ∃ q, wr = w0.drewN q) (fun i _ => n - (intOf i).toNat)
      case atStart => exact ⟨0, Nat.zero_le _, rfl, _, rfl⟩
      case round =>
        obtain ⟨k, hk, rfl, q2, rfl⟩ := hrel
        by_cases hkn : k < n
        · obtain ⟨b, off, rfl, hb, hc⟩ := HA.out.1.codes (show 0 < n by omega)
          obtain ⟨b', off', rfl, hb', hc'⟩ := HA.out.2.codes (show 0 < n by omega)
          have k0 := hc k hkn
          have j0 := hc' k hkn
          have a0 := HA.out.1.code k hkn
          have a1 := HA.out.2.code k hkn
          have e := HR.out.1 k hkn
          have ei := HR.out.2.1 k hkn
          have hl9 := HD.out k hkn
          dsimp only at k0 j0 a0 a1
          clear hc hc'
          generalize cd k = c at k0 a0 e ei hl9
          generalize cd' k = c' at j0 a1 e ei
          obtain ⟨cA, l, ccap, F⟩ := c
          obtain ⟨cA', l', ccap', F'⟩ := c'
          unfold Cd.val at k0 j0
          unfold Cd.At at a0 a1
          dsimp only at *
          subst e
          have HI := Lib.hid (And.intro a0 (And.intro a1 ei))
          clear a0 a1 ei
          have hk0 : (0 : Int) ≤ (k : Int) := by omega
          have hk2 : (k : Int) < (n : Int) := by omega
          have hne4 : ((l : Int) != (l : Int)) = false := by simp
          go_wp2
          go_quiet (fail)
          go_wp2
          go_loopw [7] (fun i wr => ∃ j : Nat, j ≤ l ∧ i = .int .i64 j ∧ ∃ q, wr = w0.drewN q) (fun i _ => l - (intOf i).toNat)
          case atStart => exact ⟨0, Nat.zero_le _, rfl, _, World.drewN_drewN _ _ _⟩
          case round =>
            obtain ⟨j, hj, rfl, q3, rfl⟩ := hrel
            by_cases hjl : j < l
            · obtain ⟨g, go, rfl, hg, hd⟩ := HI.out.1 (by omega)
              obtain ⟨g', go', rfl, hg', hd'⟩ := HI.out.2.1 (by omega)
              have ef := HI.out.2.2 j hjl
              have d0 := hd j hjl
              have d1 := hd' j hjl
              dsimp only at d0 d1
              rw [← ef] at d1
              generalize F j = f at d0 d1
              obtain ⟨f0, f1, f2, f3, f4⟩ := f
              have u0 : w0.cell? ⟨g, go + j * 5, none⟩ = some (.int .i64 f0) := d0 0 _ rfl
              have u1 : w0.cell? ⟨g, go + j * 5 + 1, none⟩ = some (.int .i64 f1) := d0 1 _ rfl
              have u2 : w0.cell? ⟨g, go + j * 5 + 2, none⟩ = some (.int .i64 f2) := d0 2 _ rfl
              have u3 : w0.cell? ⟨g, go + j * 5 + 3, none⟩ = some (.int .i64 f3) := d0 3 _ rfl
              have u4 : w0.cell? ⟨g, go + j * 5 + 4, none⟩ = some (.int .u32 f4) := d0 4 _ rfl
              have v0 : w0.cell? ⟨g', go' + j * 5, none⟩ = some (.int .i64 f0) := d1 0 _ rfl
              have v1 : w0.cell? ⟨g', go' + j * 5 + 1, none⟩ = some (.int .i64 f1) := d1 1 _ rfl
              have v2 : w0.cell? ⟨g', go' + j * 5 + 2, none⟩ = some (.int .i64 f2) := d1 2 _ rfl
              have v3 : w0.cell? ⟨g', go' + j * 5 + 3, none⟩ = some (.int .i64 f3) := d1 3 _ rfl
              have v4 : w0.cell? ⟨g', go' + j * 5 + 4, none⟩ = some (.int .u32 f4) := d1 4 _ rfl
              have hj0 : (0 : Int) ≤ (j : Int) := by omega
              have hj1 : (j : Int) < (l : Int) := by omega
              clear hd hd' d0 d1 ef
              go_wp2
              go_quiet (fail)
              go_wp2
              go_roundw
              case rel => exact ⟨j + 1, by omega, by go_num, _, rfl⟩
              case measure => simp [intOf]; omega
            · obtain rfl : l = j := by omega
              have hj1 : ¬ (l : Int) < (l : Int) := by omega
              go_wp2
              go_roundw
              case rel => exact ⟨k + 1, by omega, by go_num, _, rfl⟩
              case measure => simp [intOf]; omega
        · obtain rfl : n = k := by omega
          have hk2 : ¬ (n : Int) < (n : Int) := by omega
          go_wp2
          go_ret
          exact ⟨rfl, ⟨hB.os, hB.tape, hB.output, hB.size, hB.block⟩⟩
end Go.Proofs.YtlmhifnanhkcnaaDoor
