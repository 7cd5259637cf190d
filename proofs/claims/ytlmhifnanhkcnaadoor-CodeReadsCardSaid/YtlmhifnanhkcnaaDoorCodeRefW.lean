/- The document's Write: a program's bytes. -/
import Derived.Test.YtlmhifnanhkcnaaDoorCodeWrite
namespace Go.Proofs.YtlmhifnanhkcnaaDoor
open Go.ChangeShapes Go.WideShapes Go.ChangeAt Go.RowKit Go.Deep
set_option linter.unusedVariables false
set_option linter.unusedSimpArgs false

set_option maxHeartbeats 4000000 in
theorem refWrite_yes (p : Pg) (ho : p.Ok) (h : Chk p 0 0 0) (w : World) (ha : p.At w) :
    Calls Tryd.prog 27 #[p.val] w fun r w' => ∃ v, r = .returned v ∧ BytesO w' (w.heap.size + 1) v (wrB p) ∧ Below w.heap.size w w' := by
  obtain ⟨f1, f2, f3, f4, f5, f6⟩ := chk_fine h rfl
  obtain ⟨A, n, cap, cd, mA, m, mcap, Z, room⟩ := p
  obtain ⟨_, _, _, _, cds, hz0, _, _⟩ := ho
  obtain ⟨hcodes, hcode, hmem⟩ := ha
  unfold Pg.val
  unfold wrB
  dsimp only at *
  have hB := (Below.refl w.heap.size w).alloc (Nat.le_refl _) (Obj.cells #[.slice A n cap, .slice mA m mcap, .int .i64 room] 38)
  have hq := Blk.new w 38 #[.slice A n cap, .slice mA m mcap, .int .i64 room]
  have H1 := Lib.hid hcodes
  have H2 := Lib.hid hcode
  have H3 := Lib.hid hmem
  have H4 := Lib.hid cds
  have H5 := Lib.hid hz0
  have H6 := Lib.hid f6
  clear hcodes hcode hmem cds hz0 f6 h
  have hr0 : 0 ≤ room := by omega
  have hm0 : (m : Int) % 256 ≤ 255 := by omega
  have hown0 : BytesO ((w.alloc (Obj.cells #[.slice A n cap, .slice mA m mcap, .int .i64 room] 38)).alloc (.cells #[.int .u8 100, .int .u8 108, .int .u8 49, .int .u8 (n : Int), .int .u8 room, .int .u8 ((m : Int) % 256), .int .u8 ((m : Int) / 256)] 5)) (w.heap.size + 1) (.slice (some ⟨w.heap.size + 1, 0, none⟩) 7 7) ([100, 108, 49, (n : Int), room] ++ twoB m) :=
    own_lit (Blk.new2 w _ 5 _) rfl (Nat.le_refl _) (by decide)
  have hB6 := hB.alloc hB.size (.cells #[.int .u8 100, .int .u8 108, .int .u8 49, .int .u8 (n : Int), .int .u8 room, .int .u8 ((m : Int) % 256), .int .u8 ((m : Int) / 256)] 5)
  have hq6 := hq.alloc (.cells #[.int .u8 100, .int .u8 108, .int .u8 49, .int .u8 (n : Int), .int .u8 room, .int .u8 ((m : Int) % 256), .int .u8 ((m : Int) / 256)] 5)
  obtain ⟨P0, hP0⟩ : ∃ P0, P0 = [100, 108, 49, (n : Int), room] ++ twoB m := ⟨_, rfl⟩
  have hP0l : P0.length = 7 := by rw [hP0]; rfl
  rw [← hP0] at hown0
  have HP0 := Lib.hid (And.intro hP0 hP0l)
  clear hP0 hP0l hB hq
  go_enter Tryd.func27, Tryd.ntmps27
  go_wp2_with fail
  obtain ⟨W, hW⟩ : ∃ W, W = (w.alloc (Obj.cells #[.slice A n cap, .slice mA m mcap, .int .i64 room] 38)).alloc (.cells #[.int .u8 100, .int .u8 108, .int .u8 49, .int .u8 (n : Int), .int .u8 room, .int .u8 ((m : Int) % 256), .int .u8 ((m : Int) / 256)] 5) := ⟨_, rfl⟩
  rw [← hW] at hown0 hB6 hq6 ⊢
  clear hW
  go_loopw [3, 4] (fun s i wr => ∃ k : Nat, k ≤ m ∧ i = .int .i64 k ∧ BytesO wr (w.heap.size + 1) s (P0 ++ memB Z k) ∧ Blk wr w.heap.size 38 #[.slice A n cap, .slice mA m mcap, .int .i64 room] ∧ Below w.heap.size w wr) (fun _ i _ => m - (intOf i).toNat)
  case atStart => exact ⟨0, Nat.zero_le _, rfl, by simpa [memB] using hown0, hq6, hB6⟩
  case round =>
    clear hown0 hq6 hB6
    obtain ⟨k, hk, rfl, hown, hqr, hBr⟩ := hrel
    have hqlt := hqr.lt
    have q0 := hqr.cell 0
    have q1 := hqr.cell 1
    simp only [List.getElem?_toArray, List.getElem?_cons_zero, List.getElem?_cons_succ] at q0 q1
    by_cases hkm : k < m
    · obtain ⟨b, off, rfl, hbB, hcc⟩ := H3.out (by omega)
      have c0 : wr.cell? ⟨b, off + k, none⟩ = some (.int .u32 (Z k)) := keepAt hBr hbB (hcc k hkm)
      have hz := H5.out k hkm
      have hk0 : (k : Int) < (m : Int) := by omega
      have HM := Lib.hid (memB_succ Z k)
      have hln : (P0 ++ memB Z k).length ≤ 100000 := by rw [List.length_append, memB_len, HP0.out.2]; omega
      clear hcc
      obtain ⟨L, hL⟩ : ∃ L, L = P0 ++ memB Z k := ⟨_, rfl⟩
      rw [← hL] at hown hln
      have HL := Lib.hid hL
      clear hL
      obtain ⟨z, hz'⟩ : ∃ z, Z k = z := ⟨_, rfl⟩
      rw [hz'] at c0 hz HM
      clear hz'
      have cP := refPut_any 0 0 0 0 z ⟨by decide, by decide⟩ ⟨by decide, by decide⟩ ⟨by decide, by decide⟩ ⟨by decide, by decide⟩ hz.1 hz.2
      go_wp2_with fail
      refine (cP _).mono ?_
      rintro e w3 ⟨rfl, hw3⟩
      have hA3 : Below wr.heap.size wr w3 := by rw [← hw3]; exact ((Below.refl _ _).alloc (Nat.le_refl _) _).alloc (by simp) _
      have hb3 : Blk w3 (wr.heap.size + 1) 5 ((instrBytes 0 0 0 0 z).map (Value.int .u8)).toArray := by rw [← hw3]; exact Blk.new2 _ _ _ _
      clear hw3 cP
      have hown5 := hown.below hA3
      have hB5 := step_below hBr hA3
      have hq5 := hqr.below hA3 hqlt
      have hsl5 : Sl w3 (some ⟨wr.heap.size + 1, 4, none⟩) 4 (fun i => .int .u8 ((wB z).getD i 0)) := fun _ => ⟨wr.heap.size + 1, 4, rfl, hb3.lt, fun i hi => by
        rw [hb3.cell]
        rcases (by omega : i = 0 ∨ i = 1 ∨ i = 2 ∨ i = 3) with rfl | rfl | rfl | rfl <;> rfl⟩
      clear hown hqr hBr hA3 hb3
      go_wp2_with (at_builtin; refine wpList_append_bytes rfl (.tmp 33) (.tmp 41) rfl rfl (w.heap.size + 1) _ _ rfl hown5 _ 4 4 (wB z) rfl rfl hsl5 (by omega) (by have := hB5.size; have := hq5.lt; omega) ?_; intro v3 w4 hown6 hg6; have hB6 := below_own hB5 hown5 hg6 (by omega) (Nat.le_refl _); have hq6 := hq5.grow_own hown5 hg6 (by omega))
      go_roundw
      case rel =>
        refine ⟨k + 1, by omega, by go_num, ?_, hq6, hB6⟩
        rw [HM.out, ← List.append_assoc, ← HL.out]
        exact hown6
      case measure => simp [intOf]; omega
    · obtain rfl : m = k := by omega
      have hk0 : ¬ (m : Int) < (m : Int) := by omega
      obtain ⟨P1, hP1⟩ : ∃ P1, P1 = P0 ++ memB Z m := ⟨_, rfl⟩
      rw [← hP1] at hown
      have hP1l : P1.length ≤ 5000 := by rw [hP1, List.length_append, memB_len, HP0.out.2]; omega
      have HP1 := Lib.hid hP1
      clear hP1
      go_wp2_with fail
      clear q0 q1
      go_loopw [3, 5] (fun s i wr => ∃ t : Nat, t ≤ n ∧ i = .int .i64 t ∧ BytesO wr (w.heap.size + 1) s (P1 ++ codesB cd t) ∧ Blk wr w.heap.size 38 #[.slice A n cap, .slice mA m mcap, .int .i64 room] ∧ Below w.heap.size w wr) (fun _ i _ => n - (intOf i).toNat)
      case atStart => exact ⟨0, Nat.zero_le _, rfl, by simpa [codesB] using hown, hqr, hBr⟩
      case round =>
        clear hown hqr hBr hqlt
        obtain ⟨t, htn, rfl, hown, hqr, hBr⟩ := hrel
        have hqlt := hqr.lt
        have q0 := hqr.cell 0
        simp only [List.getElem?_toArray, List.getElem?_cons_zero, List.getElem?_cons_succ] at q0
        by_cases htl : t < n
        · obtain ⟨b, off, rfl, hbB, hcc⟩ := H1.out (by omega)
          have hcell : wr.cell? ⟨b, off + t, none⟩ = some (.slice (cd t).A (cd t).len (cd t).cap) := keepAt hBr hbB (hcc t htl)
          have hok := H4.out t htl
          have hgd := H6.out t htl
          have hat := H2.out t htl
          have HM := Lib.hid (codesB_succ cd t)
          have hln : (P1 ++ codesB cd t).length ≤ 300000 := by
            have := codesB_len cd t (fun s hs => (H6.out s (by omega)).1)
            rw [List.length_append]
            have : 32002 * t ≤ 32002 * 8 := Nat.mul_le_mul_left _ (by omega)
            omega
          obtain ⟨L, hL⟩ : ∃ L, L = P1 ++ codesB cd t := ⟨_, rfl⟩
          rw [← hL] at hown hln
          have HL := Lib.hid hL
          clear hL hcc
          obtain ⟨c, hc⟩ : ∃ c, cd t = c := ⟨_, rfl⟩
          rw [hc] at hcell hok hgd hat HM
          clear hc
          obtain ⟨A', l', c', F⟩ := c
          obtain ⟨_, _, hins⟩ := hok
          obtain ⟨hg1, hg2⟩ := hgd
          unfold Cd.At at hat
          dsimp only at *
          have HA := Lib.hid hat
          have HI := Lib.hid hins
          have HG := Lib.hid hg2
          clear hat hins hg2
          have ht0 : (t : Int) < (n : Int) := by omega
          have hl256 : (l' : Int) % 256 ≤ 255 := by omega
          have hown5 := hown.alloc (.cells #[.int .u8 ((l' : Int) % 256), .int .u8 ((l' : Int) / 256)] 5)
          have hsl5 := sl_bytes wr 5 (twoB l')
          have hB5 := hBr.alloc hBr.size (.cells #[.int .u8 ((l' : Int) % 256), .int .u8 ((l' : Int) / 256)] 5)
          have hq5 := hqr.alloc (.cells #[.int .u8 ((l' : Int) % 256), .int .u8 ((l' : Int) / 256)] 5)
          go_wp2_with (at_builtin; refine wpList_append_bytes rfl (.tmp 55) (.tmp 64) rfl rfl (w.heap.size + 1) _ _ rfl hown5 _ 2 2 (twoB l') rfl rfl hsl5 (by omega) (by simp; omega) ?_; intro v3 w4 hown6 hg6; have hB6 := below_own hB5 hown5 hg6 (by omega) (Nat.le_refl _); have hq6 := hq5.grow_own hown5 hg6 (by omega); clear hown5 hsl5 hB5 hq5 hg6 hown hqr hBr hcell)
          obtain ⟨L2, hL2⟩ : ∃ L2, L2 = L ++ twoB l' := ⟨_, rfl⟩
          rw [← hL2] at hown6
          have hln2 : L2.length ≤ 300002 := by rw [hL2, List.length_append]; show _ + 2 ≤ _; omega
          have HL2 := Lib.hid hL2
          clear hL2 q0
          obtain ⟨wo, rfl⟩ : ∃ wo : World, wo = wr := ⟨_, rfl⟩
          go_loopw [3, 7] (fun s i wr => ∃ j : Nat, j ≤ l' ∧ i = .int .i64 j ∧ BytesO wr (w.heap.size + 1) s (L2 ++ codB F j) ∧ Blk wr w.heap.size 38 #[.slice (some ⟨b, off, none⟩) n cap, .slice mA m mcap, .int .i64 room] ∧ Below w.heap.size w wr) (fun _ i _ => l' - (intOf i).toNat)
          case atStart => exact ⟨0, Nat.zero_le _, rfl, by simpa [codB] using hown6, hq6, hB6⟩
          case round =>
            clear hown6 hq6 hB6
            obtain ⟨j, hj, rfl, hown, hqr, hBr⟩ := hrel
            have hqlt2 := hqr.lt
            by_cases hjl : j < l'
            · obtain ⟨b', off', rfl, hlt', hc'⟩ := HA.out (show 0 < l' by omega)
              have hcj := hc' j hjl
              dsimp only at hcj
              have hby := right_bytes (HG.out j hjl)
              have hk := HI.out j hjl
              have HM2 := Lib.hid (codB_succ F j)
              have hln3 : (L2 ++ codB F j).length ≤ 340000 := by rw [List.length_append, codB_len]; omega
              obtain ⟨L3, hL3⟩ : ∃ L3, L3 = L2 ++ codB F j := ⟨_, rfl⟩
              rw [← hL3] at hown hln3
              have HL3 := Lib.hid hL3
              clear hL3 hc'
              obtain ⟨q, hq⟩ : ∃ q, F j = q := ⟨_, rfl⟩
              rw [hq] at hcj hby hk HM2
              clear hq
              have k0 : wr.cell? ⟨b', off' + j * 5, none⟩ = some (.int .i64 q.op) := keepAt hBr hlt' (hcj 0 _ rfl)
              have k1 : wr.cell? ⟨b', off' + j * 5 + 1, none⟩ = some (.int .i64 q.a) := keepAt hBr hlt' (hcj 1 _ rfl)
              have k2 : wr.cell? ⟨b', off' + j * 5 + 2, none⟩ = some (.int .i64 q.b) := keepAt hBr hlt' (hcj 2 _ rfl)
              have k3 : wr.cell? ⟨b', off' + j * 5 + 3, none⟩ = some (.int .i64 q.c) := keepAt hBr hlt' (hcj 3 _ rfl)
              have k4 : wr.cell? ⟨b', off' + j * 5 + 4, none⟩ = some (.int .u32 q.k) := keepAt hBr hlt' (hcj 4 _ rfl)
              clear hcj
              have cP := refPut_any q.op q.a q.b q.c q.k hby.1 hby.2.1 hby.2.2.1 hby.2.2.2 hk.k0 hk.k1
              have hj0 : (j : Int) < (l' : Int) := by omega
              go_wp2_with fail
              refine (cP _).mono ?_
              rintro e w5 ⟨rfl, hw5⟩
              have hA5 : Below wr.heap.size wr w5 := by rw [← hw5]; exact ((Below.refl _ _).alloc (Nat.le_refl _) _).alloc (by simp) _
              have hb5 : Blk w5 (wr.heap.size + 1) 5 ((insB q).map (Value.int .u8)).toArray := by rw [← hw5]; exact Blk.new2 _ _ _ _
              clear hw5 cP
              have hownB := hown.below hA5
              have hBB := step_below hBr hA5
              have hqB := hqr.below hA5 hqlt2
              have hsl5 : Sl w5 (some ⟨wr.heap.size + 1, 0, none⟩) 8 (fun i => .int .u8 ((insB q).getD i 0)) := fun _ => ⟨wr.heap.size + 1, 0, rfl, hb5.lt, fun i hi => by
                rw [hb5.cell, Nat.zero_add]
                have hi8 : i < (insB q).length := hi
                simp [List.getD_eq_getElem?_getD, List.getElem?_eq_getElem hi8]⟩
              clear hown hA5 hb5 k0 k1 k2 k3 k4 hqr hBr
              go_wp2_with (at_builtin; refine wpList_append_bytes rfl (.tmp 72) (.tmp 77) rfl rfl (w.heap.size + 1) _ _ rfl hownB _ 8 8 (insB q) rfl rfl hsl5 (by omega) (by have := hBB.size; have := hqB.lt; omega) ?_; intro v6 w6 hown6 hg6; have hB6 := below_own hBB hownB hg6 (by omega) (Nat.le_refl _); have hq6 := hqB.grow_own hownB hg6 (by omega))
              go_roundw
              case rel =>
                refine ⟨j + 1, by omega, by go_num, ?_, hq6, hB6⟩
                rw [HM2.out, ← List.append_assoc, ← HL3.out]
                exact hown6
              case measure => simp [intOf]; omega
            · obtain rfl : l' = j := by omega
              have hj0 : ¬ (l' : Int) < (l' : Int) := by omega
              go_wp2_with fail
              go_roundw
              case rel =>
                refine ⟨t + 1, by omega, by go_num, ?_, hqr, hBr⟩
                rw [HM.out, ← List.append_assoc, ← HL.out, ← List.append_assoc, ← HL2.out]
                exact hown
              case measure => simp [intOf]; omega
        · obtain rfl : n = t := by omega
          have ht0 : ¬ (n : Int) < (n : Int) := by omega
          go_wp2_with fail
          go_ret
          refine ⟨_, rfl, ?_, hBr⟩
          have := hown
          rw [HP1.out, HP0.out.1] at this
          exact this
end Go.Proofs.YtlmhifnanhkcnaaDoor
