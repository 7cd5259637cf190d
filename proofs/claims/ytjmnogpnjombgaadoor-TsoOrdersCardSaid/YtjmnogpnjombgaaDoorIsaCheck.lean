/- isa.Check tells what is wrong first. -/
import Derived.Test.YtjmnogpnjombgaaDoorIsaChk
import Derived.Deep.LoopGhost
namespace Go.Proofs.YtjmnogpnjombgaaDoor
open Go.ChangeShapes Go.WideShapes Go.ChangeAt Go.RowKit Go.Deep
set_option linter.unusedVariables false
set_option maxRecDepth 100000

/-- The loops' targets: what stands at the first place where something is wrong, or the end. -/
def Goal (n : Nat) (cd : Nat → Cd) (K J : Nat) (kind : Nat) : Prop :=
  (∀ s, s < K → goodCd (cd s)) ∧ ((kind = 0 ∧ K = n) ∨ (kind = 1 ∧ K < n ∧ 4000 < (cd K).len) ∨
    (kind = 2 ∧ K < n ∧ (cd K).len ≤ 4000 ∧ J < (cd K).len ∧ (∀ i, i < J → rightB ((cd K).F i) (cd K).len = true) ∧ rightB ((cd K).F J) (cd K).len = false))

theorem check_args (p : Pg) (h : p.n < 1 ∨ 8 < p.n ∨ p.room < 1 ∨ 16 < p.room) (w : World) :
    Calls Tryd.prog 71 #[p.val] w fun e w' => e = .returned (.tuple #[.int .i64 (-1), .int .i64 (-1), .int .i64 1]) ∧ Below w.heap.size w w' := by
  obtain ⟨A, n, cap, cd, mA, m, mcap, Z, room⟩ := p
  unfold Pg.val
  dsimp only at h ⊢
  have hB := (Below.refl w.heap.size w).alloc (Nat.le_refl _) (Obj.cells #[.slice A n cap, .slice mA m mcap, .int .i64 room] 63)
  go_enter Tryd.func71, Tryd.ntmps71
  by_cases h1 : n < 1
  · go_wp2
    go_ret3
    exact ⟨rfl, hB⟩
  by_cases h2 : 8 < n
  · go_wp2
    go_ret3
    exact ⟨rfl, hB⟩
  by_cases h3 : room < 1
  · clear h
    go_wp2
    go_ret3
    exact ⟨rfl, hB⟩
  · have h4 : 16 < room := by omega
    clear h
    go_wp2
    go_ret3
    exact ⟨rfl, hB⟩

theorem check_mem (p : Pg) (a1 : 1 ≤ p.n) (a2 : p.n ≤ 8) (a3 : 1 ≤ p.room) (a4 : p.room ≤ 16) (h : 1024 < p.m) (w : World) :
    Calls Tryd.prog 71 #[p.val] w fun e w' => e = .returned (.tuple #[.int .i64 (-1), .int .i64 (-1), .int .i64 4]) ∧ Below w.heap.size w w' := by
  obtain ⟨A, n, cap, cd, mA, m, mcap, Z, room⟩ := p
  unfold Pg.val
  dsimp only at h a1 a2 a3 a4 ⊢
  have hB := (Below.refl w.heap.size w).alloc (Nat.le_refl _) (Obj.cells #[.slice A n cap, .slice mA m mcap, .int .i64 room] 63)
  go_enter Tryd.func71, Tryd.ntmps71
  go_wp2
  go_ret3
  exact ⟨rfl, hB⟩

def chkRes (K J kind : Nat) : Ending := if kind = 0 then .returned (.tuple #[.int .i64 0, .int .i64 0, .int .i64 0]) else if kind = 1 then .returned (.tuple #[.int .i64 (K : Int), .int .i64 (-1), .int .i64 4]) else .returned (.tuple #[.int .i64 (K : Int), .int .i64 (J : Int), .int .i64 3])

set_option maxHeartbeats 2000000 in
theorem check_loop (p : Pg) (ho : p.Ok) (a1 : 1 ≤ p.n) (a2 : p.n ≤ 8) (a3 : 1 ≤ p.room) (a4 : p.room ≤ 16) (a5 : p.m ≤ 1024) (K J kind : Nat) (hg : Goal p.n p.cd K J kind) (w : World) (ht : Tab w) (ha : p.At w) :
    Calls Tryd.prog 71 #[p.val] w fun e w' => e = chkRes K J kind ∧ Below w.heap.size w w' := by
  obtain ⟨A, n, cap, cd, mA, m, mcap, Z, room⟩ := p
  obtain ⟨hl, hm, _, _, cds, _, _, _⟩ := ho
  obtain ⟨hcodes, hcode, _⟩ := ha
  unfold Pg.val
  dsimp only at *
  unfold maxLen at hm
  have hB := (Below.refl w.heap.size w).alloc (Nat.le_refl _) (Obj.cells #[.slice A n cap, .slice mA m mcap, .int .i64 room] 63)
  obtain ⟨b, off, rfl, hlt, hc⟩ := hcodes (by omega)
  have HG := Lib.hid hg
  have HC := Lib.hid hc
  have HD := Lib.hid hcode
  have HO := Lib.hid cds
  have hKn : K ≤ n := by obtain ⟨_, h⟩ := hg; omega
  clear hg hc hcode cds hcodes
  go_enter Tryd.func71, Tryd.ntmps71
  go_wp2
  go_loopw [36] (fun v wr => ∃ k : Nat, k ≤ K ∧ v = .int .i64 k ∧ Below w.heap.size w wr) (fun v _ => K - (intOf v).toNat)
  case atStart => exact ⟨0, Nat.zero_le _, rfl, hB⟩
  case round =>
    obtain ⟨k, hk, rfl, hBr⟩ := hrel
    have htr := ht.step hBr
    rcases (by omega : k < K ∨ (k = K ∧ k < n) ∨ (k = K ∧ k = n)) with hkK | ⟨rfl, hkn⟩ | ⟨rfl, rfl⟩
    · have hkn : k < n := by omega
      have hcell := keepAt hBr hlt (HC.out k hkn)
      have hat := (HD.out k hkn).step hBr
      have hok := HO.out k hkn
      have hgd := HG.out.1 k hkK
      generalize cd k = c at hcell hat hok hgd
      obtain ⟨A', l', c', F⟩ := c
      obtain ⟨hl', hm', hins⟩ := hok
      obtain ⟨hg1, hg2⟩ := hgd
      unfold Cd.val at hcell
      unfold Cd.At at hat
      dsimp only at *
      unfold maxLen at hm'
      have HA := Lib.hid hat
      have HI := Lib.hid hins
      have HG2 := Lib.hid hg2
      clear hat hins hg2
      have tok : True := trivial
      go_wp2
      obtain ⟨wo, rfl⟩ : ∃ wo : World, wo = wr := ⟨_, rfl⟩
      go_loopw [47] (fun v wr => ∃ j : Nat, j ≤ l' ∧ v = .int .i64 j ∧ Below wo.heap.size wo wr) (fun v _ => l' - (intOf v).toNat)
      case atStart => exact ⟨0, Nat.zero_le _, rfl, Below.refl _ _⟩
      case round =>
        obtain ⟨j, hj, rfl, hBx⟩ := hrel
        have hBw := step_below hBr hBx
        have htx := ht.step hBw
        by_cases hjl : j < l'
        · have hox := HI.out j hjl
          have hrt := HG2.out j hjl
          obtain ⟨b', off', rfl, hlt', hc'⟩ := HA.out.step hBx (by omega)
          have hcj := hc' j hjl
          dsimp only at hcj
          clear hc'
          generalize F j = q at hox hrt hcj
          have k0 : wr.cell? ⟨b', off' + j * 5, none⟩ = some (.int .i64 q.op) := hcj 0 _ rfl
          have k1 : wr.cell? ⟨b', off' + j * 5 + 1, none⟩ = some (.int .i64 q.a) := hcj 1 _ rfl
          have k2 : wr.cell? ⟨b', off' + j * 5 + 2, none⟩ = some (.int .i64 q.b) := hcj 2 _ rfl
          have k3 : wr.cell? ⟨b', off' + j * 5 + 3, none⟩ = some (.int .i64 q.c) := hcj 3 _ rfl
          have k4 : wr.cell? ⟨b', off' + j * 5 + 4, none⟩ = some (.int .u32 q.k) := hcj 4 _ rfl
          clear hcj
          have cR := right_any q l' hox (by omega) (by omega)
          rw [hrt] at cR
          clear hrt
          have htx2 := htx.alloc (Obj.cells #[.int .i64 q.op, .int .i64 q.a, .int .i64 q.b, .int .i64 q.c, .int .u32 q.k] 54)
          have hBx2 := hBx.alloc hBx.size (Obj.cells #[.int .i64 q.op, .int .i64 q.a, .int .i64 q.b, .int .i64 q.c, .int .u32 q.k] 54)
          go_wp2_with fail
          refine (cR _ htx2).mono ?_
          rintro e w1 ⟨rfl, hb1⟩
          have hBx3 := step_below hBx2 hb1
          go_wp2
          go_roundw
          case rel => exact ⟨j + 1, by omega, by go_num, hBx3⟩
          case measure => simp [intOf]; omega
        · have hjl' : ¬ (j : Int) < (l' : Int) := by omega
          have hkK' := hkK
          go_wp2
          go_roundw
          case rel => exact ⟨k + 1, by omega, by go_num, hBw⟩
          case measure => simp [intOf]; omega
    · obtain ⟨_, hgo⟩ := HG.out
      have hcell := keepAt hBr hlt (HC.out k hkn)
      have hat := (HD.out k hkn).step hBr
      have hok := HO.out k hkn
      generalize cd k = c at hcell hat hok hgo
      obtain ⟨A', l', c', F⟩ := c
      obtain ⟨hl', hm', hins⟩ := hok
      unfold Cd.val at hcell
      unfold Cd.At at hat
      dsimp only at *
      unfold maxLen at hm'
      have HA := Lib.hid hat
      have HI := Lib.hid hins
      clear hat hins
      rcases hgo with ⟨rfl, h⟩ | ⟨rfl, _, hlong⟩ | ⟨rfl, _, hle, hJ, hbef, hbad⟩
      · omega
      · go_wp2
        go_ret3
        exact ⟨rfl, hBr⟩
      · have HB := Lib.hid hbef
        clear hbef
        go_wp2
        obtain ⟨wo, rfl⟩ : ∃ wo : World, wo = wr := ⟨_, rfl⟩
        go_loopw [47] (fun v wr => ∃ j : Nat, j ≤ J ∧ v = .int .i64 j ∧ Below wo.heap.size wo wr) (fun v _ => J - (intOf v).toNat)
        case atStart => exact ⟨0, Nat.zero_le _, rfl, Below.refl _ _⟩
        case round =>
          obtain ⟨j, hj, rfl, hBx⟩ := hrel
          have hBw := step_below hBr hBx
          have htx := ht.step hBw
          have hjl : j < l' := by omega
          have hox := HI.out j hjl
          obtain ⟨b', off', rfl, hlt', hc'⟩ := HA.out.step hBx (by omega)
          have hcj := hc' j hjl
          dsimp only at hcj
          have htx2 := htx.alloc (Obj.cells #[.int .i64 (F j).op, .int .i64 (F j).a, .int .i64 (F j).b, .int .i64 (F j).c, .int .u32 (F j).k] 54)
          have hBx2 := hBx.alloc hBx.size (Obj.cells #[.int .i64 (F j).op, .int .i64 (F j).a, .int .i64 (F j).b, .int .i64 (F j).c, .int .u32 (F j).k] 54)
          have cR := right_any (F j) l' hox (by omega) (by omega)
          clear hc'
          by_cases hjJ : j < J
          · have hrt := HB.out j hjJ
            rw [hrt] at cR
            clear hrt hbad
            generalize F j = q at hox hcj htx2 hBx2 cR
            have k0 : wr.cell? ⟨b', off' + j * 5, none⟩ = some (.int .i64 q.op) := hcj 0 _ rfl
            have k1 : wr.cell? ⟨b', off' + j * 5 + 1, none⟩ = some (.int .i64 q.a) := hcj 1 _ rfl
            have k2 : wr.cell? ⟨b', off' + j * 5 + 2, none⟩ = some (.int .i64 q.b) := hcj 2 _ rfl
            have k3 : wr.cell? ⟨b', off' + j * 5 + 3, none⟩ = some (.int .i64 q.c) := hcj 3 _ rfl
            have k4 : wr.cell? ⟨b', off' + j * 5 + 4, none⟩ = some (.int .u32 q.k) := hcj 4 _ rfl
            clear hcj
            go_wp2_with fail
            refine (cR _ htx2).mono ?_
            rintro e w1 ⟨rfl, hb1⟩
            have hBx3 := step_below hBx2 hb1
            go_wp2
            go_roundw
            case rel => exact ⟨j + 1, by omega, by go_num, hBx3⟩
            case measure => simp [intOf]; omega
          · obtain rfl : j = J := by omega
            rw [hbad] at cR
            clear hbad
            generalize F j = q at hox hcj htx2 hBx2 cR
            have k0 : wr.cell? ⟨b', off' + j * 5, none⟩ = some (.int .i64 q.op) := hcj 0 _ rfl
            have k1 : wr.cell? ⟨b', off' + j * 5 + 1, none⟩ = some (.int .i64 q.a) := hcj 1 _ rfl
            have k2 : wr.cell? ⟨b', off' + j * 5 + 2, none⟩ = some (.int .i64 q.b) := hcj 2 _ rfl
            have k3 : wr.cell? ⟨b', off' + j * 5 + 3, none⟩ = some (.int .i64 q.c) := hcj 3 _ rfl
            have k4 : wr.cell? ⟨b', off' + j * 5 + 4, none⟩ = some (.int .u32 q.k) := hcj 4 _ rfl
            clear hcj
            go_wp2_with fail
            refine (cR _ htx2).mono ?_
            rintro e w1 ⟨rfl, hb1⟩
            have hBx3 := step_below hBr (step_below hBx2 hb1)
            go_wp2
            go_ret3
            exact ⟨rfl, hBx3⟩
    · obtain ⟨_, hgo⟩ := HG.out
      rcases hgo with ⟨rfl, h⟩ | ⟨rfl, h, _⟩ | ⟨rfl, h, _⟩
      · go_wp2
        go_ret3
        exact ⟨rfl, hBr⟩
      · exact absurd h (by omega)
      · exact absurd h (by omega)

theorem check_any (p : Pg) (ho : p.Ok) (t j e : Int) (h : Chk p t j e) (w : World) (ht : Tab w) (ha : p.At w) :
    Calls Tryd.prog 71 #[p.val] w fun r w' => r = .returned (.tuple #[.int .i64 t, .int .i64 j, .int .i64 e]) ∧ Below w.heap.size w w' := by
  cases h with
  | args h => exact check_args p h w
  | mem a1 a2 a3 a4 h => exact check_mem p a1 a2 a3 a4 h w
  | long t a1 a2 a3 a4 a5 ht' hg hl => exact check_loop p ho a1 a2 a3 a4 a5 t 0 1 ⟨hg, .inr (.inl ⟨rfl, ht', hl⟩)⟩ w ht ha
  | form t j a1 a2 a3 a4 a5 ht' hg hl hj hi hb => exact check_loop p ho a1 a2 a3 a4 a5 t j 2 ⟨hg, .inr (.inr ⟨rfl, ht', hl, hj, hi, hb⟩)⟩ w ht ha
  | fine a1 a2 a3 a4 a5 hg => exact check_loop p ho a1 a2 a3 a4 a5 p.n 0 0 ⟨hg, .inl ⟨rfl, rfl⟩⟩ w ht ha
end Go.Proofs.YtjmnogpnjombgaaDoor
