/- The document's Sees of layer 10, where all that is told is right. -/
import Derived.Test.YtjmnogpnjombgaaDoorScSeesP
namespace Go.Proofs.YtjmnogpnjombgaaDoor
open Go.ChangeShapes Go.WideShapes Go.ChangeAt Go.RowKit Go.Deep
set_option linter.unusedVariables false
set_option maxRecDepth 100000
set_option linter.unusedSimpArgs false

def evd : Evt := ⟨0, 0, 0, 0, 0, 0, 0, false⟩
theorem take_snocE (l : List Evt) (k : Nat) (h : k < l.length) : l.take (k + 1) = l.take k ++ [l.getD k evd] := take_snoc l k evd h
set_option maxHeartbeats 8000000 in
theorem sees_any (eA : Option Addr) (ecap : Nat) (l : List Evt) (n : Nat) (hl : l.length = n) (hn : n ≤ 2000000000) (mA : Option Addr) (m mcap : Nat) (hm : m ≤ 1024) (Z : Nat → Int) (hZ : ∀ i, i < m → RV (Z i)) (W : World)
    (he : SlE W eA n 8 (fun i => (l.getD i evd).cells)) (hmem : Sl W mA m (fun i => .int .u32 (Z i))) (h : ∀ i, i < n → SeesX (l.take i) Z m (l.getD i evd)) :
    Calls Tryd.prog 27 #[.slice eA n ecap, .slice mA m mcap] W fun e W' => e = .returned (.int .i64 1) ∧ Below W.heap.size W W' := by
  have HH := Lib.hid (And.intro he (And.intro hmem (And.intro h (And.intro hl hZ))))
  clear he hmem h hl hZ
  go_enter Tryd.func27, Tryd.ntmps27
  go_wp2
  go_loopw [5, 6, 7, 8] (fun i q v j wr => ∃ k : Nat, k ≤ n ∧ i = .int .i64 (k : Int) ∧ Below W.heap.size W wr) (fun i _ _ _ _ => n - (intOf i).toNat)
  case atStart => exact ⟨0, Nat.zero_le _, rfl, Below.refl _ _⟩
  case round =>
    obtain ⟨k, hk, rfl, hB⟩ := hrel
    by_cases hkn : k < n
    · have hk0 : (0 : Int) ≤ (k : Int) := by omega
      have hk1 : (k : Int) < (n : Int) := by omega
      obtain ⟨b, off, rfl, hlt, hcc⟩ := HH.out.1 (by omega)
      obtain ⟨x, hx⟩ : ∃ x, l.getD k evd = x := ⟨_, rfl⟩
      have hSX := HH.out.2.2.1 k hkn
      rw [hx] at hSX
      have q0 := keepAt hB hlt (hcc k hkn 0 _ rfl)
      have q1 := keepAt hB hlt (hcc k hkn 1 _ rfl)
      have q2 := keepAt hB hlt (hcc k hkn 2 _ rfl)
      have q3 := keepAt hB hlt (hcc k hkn 3 _ rfl)
      have q4 := keepAt hB hlt (hcc k hkn 4 _ rfl)
      have q5 := keepAt hB hlt (hcc k hkn 5 _ rfl)
      have q6 := keepAt hB hlt (hcc k hkn 6 _ rfl)
      have q7 := keepAt hB hlt (hcc k hkn 7 _ rfl)
      rw [hx] at q0 q1 q2 q3 q4 q5 q6 q7
      rw [Nat.add_zero] at q0
      obtain ⟨kd, wh, pc, ad, vl, ol, kk, ok⟩ := x
      dsimp only at q0 q1 q2 q3 q4 q5 q6 q7
      have hal := (Below.refl wr.heap.size wr).alloc (Nat.le_refl _) (.cells #[.int .i64 kd, .int .i64 wh, .int .i64 pc, .int .i64 ad, .int .u32 vl, .int .u32 ol, .int .u32 kk, .bool ok] 86)
      have hX := Blk.new wr 86 #[.int .i64 kd, .int .i64 wh, .int .i64 pc, .int .i64 ad, .int .u32 vl, .int .u32 ol, .int .u32 kk, .bool ok]
      have HB2 := Lib.hid (And.intro (step_below hB hal) hX)
      have HSX := Lib.hid hSX
      have HLT := Lib.hid hlt
      have HCC := Lib.hid hcc
      by_cases hkind : kd = 1 ∨ kd = 4 ∨ kd = 8
      · rcases hkind with rfl | rfl | rfl
        · obtain ⟨⟨ha0, ham⟩, h4, hn4⟩ := hSX (.inl rfl)
          dsimp only at ha0 ham h4 hn4
          obtain ⟨a, rfl⟩ : ∃ a : Nat, ad = (a : Int) := ⟨ad.toNat, by omega⟩
          rw [Int.toNat_natCast] at h4 hn4
          have ham' : a < m := by omega
          obtain ⟨bm, om, rfl, hltm, hcm⟩ := HH.out.2.1 (by omega)
          have qm := keepAt HB2.out.1 hltm (hcm a ham')
          have HV := Lib.hid (hn4 (by decide))
          have HM := Lib.hid (And.intro h4 hn4)
          have x0 := hX.cell 0
          have x3 := hX.cell 3
          have x4 := hX.cell 4
          have x5 := hX.cell 5
          simp only [List.getElem?_toArray, List.getElem?_cons_zero, List.getElem?_cons_succ] at x0 x3 x4 x5
          have hxl := hX.lt
          clear hSX hcc hal hX hcm hltm h4 hn4
          go_wp2
          have HB3 := Lib.hid (HB2.out.1)
          clear HB2 q0 q1 q2 q3 q4 q5 q6 q7
          generalize wr.alloc (.cells #[.int .i64 1, .int .i64 wh, .int .i64 pc, .int .i64 (a : Int), .int .u32 vl, .int .u32 ol, .int .u32 kk, .bool ok] 86) = W1 at qm x0 x3 x4 x5 HB3 hxl ⊢
          obtain ⟨xb, hxb⟩ : ∃ xb, wr.heap.size = xb := ⟨_, rfl⟩
          rw [hxb] at x0 x3 x4 x5 hxl
          try rw [hxb]
          clear hxb
          obtain ⟨wo, rfl⟩ : ∃ wo : World, wo = wr := ⟨_, rfl⟩
          go_loopw [7, 8] (fun v j wr => ∃ jn : Nat, jn ≤ k ∧ j = .int .i64 (jn : Int) ∧ v = .int .u32 (lastW (l.take jn) (a : Int) (Z a)) ∧ ∃ qq, wr = W1.drewN qq) (fun _ j _ => k - (intOf j).toNat)
          case atStart => exact ⟨0, Nat.zero_le _, rfl, rfl, 0, rfl⟩
          case round =>
            obtain ⟨jn, hjk, rfl, rfl, qq, rfl⟩ := hrel
            by_cases hjn : jn < k
            · have hj0 : (0 : Int) ≤ (jn : Int) := by omega
              have hj1 : (jn : Int) < (k : Int) := by omega
              have hj2 : (jn : Int) < (n : Int) := by omega
              obtain ⟨y, hy⟩ : ∃ y, l.getD jn evd = y := ⟨_, rfl⟩
              have y0 := keepAt HB3.out HLT.out (HCC.out jn (by omega) 0 _ rfl)
              have y3 := keepAt HB3.out HLT.out (HCC.out jn (by omega) 3 _ rfl)
              have y4 := keepAt HB3.out HLT.out (HCC.out jn (by omega) 4 _ rfl)
              rw [hy] at y0 y3 y4
              rw [Nat.add_zero] at y0
              have hsn := take_snocE l jn (by rw [HH.out.2.2.2.1]; omega)
              rw [hy] at hsn
              obtain ⟨v0, hv0⟩ : ∃ v, lastW (l.take jn) (a : Int) (Z a) = v := ⟨_, rfl⟩
              have hls : lastW (l.take (jn + 1)) (a : Int) (Z a) = lstep (a : Int) v0 y := by rw [hsn, lastW_snoc, hv0]
              rw [hv0]
              obtain ⟨yk, yw, yp, ya, yv, yo, yy, yb⟩ := y
              dsimp only at y0 y3 y4
              have HLS := Lib.hid hls
              clear hy hsn hv0 hls
              by_cases hya : ya = (a : Int)
              · have hyb : (ya == (a : Int)) = true := by simpa using hya
                by_cases hy2 : yk = 2
                · have HE := Lib.hid (HLS.out.trans (if_pos ⟨hya, .inl hy2⟩))
                  have hyk : (yk == 2) = true := by simpa using hy2
                  clear hya hy2
                  go_wp2
                  go_quiet (fail)
                  go_wp2
                  go_roundw
                  case rel => exact ⟨jn + 1, by omega, by go_num, by rw [HE.out], _, rfl⟩
                  case measure => simp [intOf]; omega
                · have hyk : (yk == 2) = false := by simpa using hy2
                  by_cases hy4 : yk = 4
                  · have HE := Lib.hid (HLS.out.trans (if_pos ⟨hya, .inr hy4⟩))
                    have hyk4 : (yk == 4) = true := by simpa using hy4
                    clear hya hy2 hy4
                    go_wp2
                    go_quiet (fail)
                    go_wp2
                    go_roundw
                    case rel => exact ⟨jn + 1, by omega, by go_num, by rw [HE.out], _, rfl⟩
                    case measure => simp [intOf]; omega
                  · have HE := Lib.hid (HLS.out.trans (if_neg (fun q => q.2.elim hy2 hy4)))
                    have hyk4 : (yk == 4) = false := by simpa using hy4
                    clear hya hy2 hy4
                    go_wp2
                    go_quiet (fail)
                    go_wp2
                    go_roundw
                    case rel => exact ⟨jn + 1, by omega, by go_num, by rw [HE.out], _, rfl⟩
                    case measure => simp [intOf]; omega
              · have HE := Lib.hid (HLS.out.trans (if_neg (fun q => hya q.1)))
                have hyb : (ya == (a : Int)) = false := by simpa using hya
                clear hya
                go_wp2
                go_quiet (fail)
                go_wp2
                go_roundw
                case rel => exact ⟨jn + 1, by omega, by go_num, by rw [HE.out], _, rfl⟩
                case measure => simp [intOf]; omega
            · obtain rfl : k = jn := by omega
              have hj1 : ¬ (k : Int) < (k : Int) := by omega
              rw [HV.out]
              clear HM
              go_wp2
              go_roundw
              case rel => exact ⟨k + 1, by omega, by go_num, ⟨HB3.out.os, HB3.out.tape, HB3.out.output, HB3.out.size, HB3.out.block⟩⟩
              case measure => simp [intOf]; omega
        · obtain ⟨⟨ha0, ham⟩, h4, hn4⟩ := hSX (.inr (.inl rfl))
          dsimp only at ha0 ham h4 hn4
          obtain ⟨a, rfl⟩ : ∃ a : Nat, ad = (a : Int) := ⟨ad.toNat, by omega⟩
          rw [Int.toNat_natCast] at h4 hn4
          have ham' : a < m := by omega
          obtain ⟨bm, om, rfl, hltm, hcm⟩ := HH.out.2.1 (by omega)
          have qm := keepAt HB2.out.1 hltm (hcm a ham')
          have HV := Lib.hid (h4 rfl)
          have HM := Lib.hid (And.intro h4 hn4)
          have x0 := hX.cell 0
          have x3 := hX.cell 3
          have x4 := hX.cell 4
          have x5 := hX.cell 5
          simp only [List.getElem?_toArray, List.getElem?_cons_zero, List.getElem?_cons_succ] at x0 x3 x4 x5
          have hxl := hX.lt
          clear hSX hcc hal hX hcm hltm h4 hn4
          go_wp2
          have HB3 := Lib.hid (HB2.out.1)
          clear HB2 q0 q1 q2 q3 q4 q5 q6 q7
          generalize wr.alloc (.cells #[.int .i64 4, .int .i64 wh, .int .i64 pc, .int .i64 (a : Int), .int .u32 vl, .int .u32 ol, .int .u32 kk, .bool ok] 86) = W1 at qm x0 x3 x4 x5 HB3 hxl ⊢
          obtain ⟨xb, hxb⟩ : ∃ xb, wr.heap.size = xb := ⟨_, rfl⟩
          rw [hxb] at x0 x3 x4 x5 hxl
          try rw [hxb]
          clear hxb
          obtain ⟨wo, rfl⟩ : ∃ wo : World, wo = wr := ⟨_, rfl⟩
          go_loopw [7, 8] (fun v j wr => ∃ jn : Nat, jn ≤ k ∧ j = .int .i64 (jn : Int) ∧ v = .int .u32 (lastW (l.take jn) (a : Int) (Z a)) ∧ ∃ qq, wr = W1.drewN qq) (fun _ j _ => k - (intOf j).toNat)
          case atStart => exact ⟨0, Nat.zero_le _, rfl, rfl, 0, rfl⟩
          case round =>
            obtain ⟨jn, hjk, rfl, rfl, qq, rfl⟩ := hrel
            by_cases hjn : jn < k
            · have hj0 : (0 : Int) ≤ (jn : Int) := by omega
              have hj1 : (jn : Int) < (k : Int) := by omega
              have hj2 : (jn : Int) < (n : Int) := by omega
              obtain ⟨y, hy⟩ : ∃ y, l.getD jn evd = y := ⟨_, rfl⟩
              have y0 := keepAt HB3.out HLT.out (HCC.out jn (by omega) 0 _ rfl)
              have y3 := keepAt HB3.out HLT.out (HCC.out jn (by omega) 3 _ rfl)
              have y4 := keepAt HB3.out HLT.out (HCC.out jn (by omega) 4 _ rfl)
              rw [hy] at y0 y3 y4
              rw [Nat.add_zero] at y0
              have hsn := take_snocE l jn (by rw [HH.out.2.2.2.1]; omega)
              rw [hy] at hsn
              obtain ⟨v0, hv0⟩ : ∃ v, lastW (l.take jn) (a : Int) (Z a) = v := ⟨_, rfl⟩
              have hls : lastW (l.take (jn + 1)) (a : Int) (Z a) = lstep (a : Int) v0 y := by rw [hsn, lastW_snoc, hv0]
              rw [hv0]
              obtain ⟨yk, yw, yp, ya, yv, yo, yy, yb⟩ := y
              dsimp only at y0 y3 y4
              have HLS := Lib.hid hls
              clear hy hsn hv0 hls
              by_cases hya : ya = (a : Int)
              · have hyb : (ya == (a : Int)) = true := by simpa using hya
                by_cases hy2 : yk = 2
                · have HE := Lib.hid (HLS.out.trans (if_pos ⟨hya, .inl hy2⟩))
                  have hyk : (yk == 2) = true := by simpa using hy2
                  clear hya hy2
                  go_wp2
                  go_quiet (fail)
                  go_wp2
                  go_roundw
                  case rel => exact ⟨jn + 1, by omega, by go_num, by rw [HE.out], _, rfl⟩
                  case measure => simp [intOf]; omega
                · have hyk : (yk == 2) = false := by simpa using hy2
                  by_cases hy4 : yk = 4
                  · have HE := Lib.hid (HLS.out.trans (if_pos ⟨hya, .inr hy4⟩))
                    have hyk4 : (yk == 4) = true := by simpa using hy4
                    clear hya hy2 hy4
                    go_wp2
                    go_quiet (fail)
                    go_wp2
                    go_roundw
                    case rel => exact ⟨jn + 1, by omega, by go_num, by rw [HE.out], _, rfl⟩
                    case measure => simp [intOf]; omega
                  · have HE := Lib.hid (HLS.out.trans (if_neg (fun q => q.2.elim hy2 hy4)))
                    have hyk4 : (yk == 4) = false := by simpa using hy4
                    clear hya hy2 hy4
                    go_wp2
                    go_quiet (fail)
                    go_wp2
                    go_roundw
                    case rel => exact ⟨jn + 1, by omega, by go_num, by rw [HE.out], _, rfl⟩
                    case measure => simp [intOf]; omega
              · have HE := Lib.hid (HLS.out.trans (if_neg (fun q => hya q.1)))
                have hyb : (ya == (a : Int)) = false := by simpa using hya
                clear hya
                go_wp2
                go_quiet (fail)
                go_wp2
                go_roundw
                case rel => exact ⟨jn + 1, by omega, by go_num, by rw [HE.out], _, rfl⟩
                case measure => simp [intOf]; omega
            · obtain rfl : k = jn := by omega
              have hj1 : ¬ (k : Int) < (k : Int) := by omega
              rw [HV.out]
              clear HM
              go_wp2
              go_roundw
              case rel => exact ⟨k + 1, by omega, by go_num, ⟨HB3.out.os, HB3.out.tape, HB3.out.output, HB3.out.size, HB3.out.block⟩⟩
              case measure => simp [intOf]; omega
        · obtain ⟨⟨ha0, ham⟩, h4, hn4⟩ := hSX (.inr (.inr rfl))
          dsimp only at ha0 ham h4 hn4
          obtain ⟨a, rfl⟩ : ∃ a : Nat, ad = (a : Int) := ⟨ad.toNat, by omega⟩
          rw [Int.toNat_natCast] at h4 hn4
          have ham' : a < m := by omega
          obtain ⟨bm, om, rfl, hltm, hcm⟩ := HH.out.2.1 (by omega)
          have qm := keepAt HB2.out.1 hltm (hcm a ham')
          have HV := Lib.hid (hn4 (by decide))
          have HM := Lib.hid (And.intro h4 hn4)
          have x0 := hX.cell 0
          have x3 := hX.cell 3
          have x4 := hX.cell 4
          have x5 := hX.cell 5
          simp only [List.getElem?_toArray, List.getElem?_cons_zero, List.getElem?_cons_succ] at x0 x3 x4 x5
          have hxl := hX.lt
          clear hSX hcc hal hX hcm hltm h4 hn4
          go_wp2
          have HB3 := Lib.hid (HB2.out.1)
          clear HB2 q0 q1 q2 q3 q4 q5 q6 q7
          generalize wr.alloc (.cells #[.int .i64 8, .int .i64 wh, .int .i64 pc, .int .i64 (a : Int), .int .u32 vl, .int .u32 ol, .int .u32 kk, .bool ok] 86) = W1 at qm x0 x3 x4 x5 HB3 hxl ⊢
          obtain ⟨xb, hxb⟩ : ∃ xb, wr.heap.size = xb := ⟨_, rfl⟩
          rw [hxb] at x0 x3 x4 x5 hxl
          try rw [hxb]
          clear hxb
          obtain ⟨wo, rfl⟩ : ∃ wo : World, wo = wr := ⟨_, rfl⟩
          go_loopw [7, 8] (fun v j wr => ∃ jn : Nat, jn ≤ k ∧ j = .int .i64 (jn : Int) ∧ v = .int .u32 (lastW (l.take jn) (a : Int) (Z a)) ∧ ∃ qq, wr = W1.drewN qq) (fun _ j _ => k - (intOf j).toNat)
          case atStart => exact ⟨0, Nat.zero_le _, rfl, rfl, 0, rfl⟩
          case round =>
            obtain ⟨jn, hjk, rfl, rfl, qq, rfl⟩ := hrel
            by_cases hjn : jn < k
            · have hj0 : (0 : Int) ≤ (jn : Int) := by omega
              have hj1 : (jn : Int) < (k : Int) := by omega
              have hj2 : (jn : Int) < (n : Int) := by omega
              obtain ⟨y, hy⟩ : ∃ y, l.getD jn evd = y := ⟨_, rfl⟩
              have y0 := keepAt HB3.out HLT.out (HCC.out jn (by omega) 0 _ rfl)
              have y3 := keepAt HB3.out HLT.out (HCC.out jn (by omega) 3 _ rfl)
              have y4 := keepAt HB3.out HLT.out (HCC.out jn (by omega) 4 _ rfl)
              rw [hy] at y0 y3 y4
              rw [Nat.add_zero] at y0
              have hsn := take_snocE l jn (by rw [HH.out.2.2.2.1]; omega)
              rw [hy] at hsn
              obtain ⟨v0, hv0⟩ : ∃ v, lastW (l.take jn) (a : Int) (Z a) = v := ⟨_, rfl⟩
              have hls : lastW (l.take (jn + 1)) (a : Int) (Z a) = lstep (a : Int) v0 y := by rw [hsn, lastW_snoc, hv0]
              rw [hv0]
              obtain ⟨yk, yw, yp, ya, yv, yo, yy, yb⟩ := y
              dsimp only at y0 y3 y4
              have HLS := Lib.hid hls
              clear hy hsn hv0 hls
              by_cases hya : ya = (a : Int)
              · have hyb : (ya == (a : Int)) = true := by simpa using hya
                by_cases hy2 : yk = 2
                · have HE := Lib.hid (HLS.out.trans (if_pos ⟨hya, .inl hy2⟩))
                  have hyk : (yk == 2) = true := by simpa using hy2
                  clear hya hy2
                  go_wp2
                  go_quiet (fail)
                  go_wp2
                  go_roundw
                  case rel => exact ⟨jn + 1, by omega, by go_num, by rw [HE.out], _, rfl⟩
                  case measure => simp [intOf]; omega
                · have hyk : (yk == 2) = false := by simpa using hy2
                  by_cases hy4 : yk = 4
                  · have HE := Lib.hid (HLS.out.trans (if_pos ⟨hya, .inr hy4⟩))
                    have hyk4 : (yk == 4) = true := by simpa using hy4
                    clear hya hy2 hy4
                    go_wp2
                    go_quiet (fail)
                    go_wp2
                    go_roundw
                    case rel => exact ⟨jn + 1, by omega, by go_num, by rw [HE.out], _, rfl⟩
                    case measure => simp [intOf]; omega
                  · have HE := Lib.hid (HLS.out.trans (if_neg (fun q => q.2.elim hy2 hy4)))
                    have hyk4 : (yk == 4) = false := by simpa using hy4
                    clear hya hy2 hy4
                    go_wp2
                    go_quiet (fail)
                    go_wp2
                    go_roundw
                    case rel => exact ⟨jn + 1, by omega, by go_num, by rw [HE.out], _, rfl⟩
                    case measure => simp [intOf]; omega
              · have HE := Lib.hid (HLS.out.trans (if_neg (fun q => hya q.1)))
                have hyb : (ya == (a : Int)) = false := by simpa using hya
                clear hya
                go_wp2
                go_quiet (fail)
                go_wp2
                go_roundw
                case rel => exact ⟨jn + 1, by omega, by go_num, by rw [HE.out], _, rfl⟩
                case measure => simp [intOf]; omega
            · obtain rfl : k = jn := by omega
              have hj1 : ¬ (k : Int) < (k : Int) := by omega
              rw [HV.out]
              clear HM
              go_wp2
              go_roundw
              case rel => exact ⟨k + 1, by omega, by go_num, ⟨HB3.out.os, HB3.out.tape, HB3.out.output, HB3.out.size, HB3.out.block⟩⟩
              case measure => simp [intOf]; omega
      · have n1 : (kd != 1) = true := by simpa using fun e => hkind (.inl e)
        have n4 : (kd != 4) = true := by simpa using fun e => hkind (.inr (.inl e))
        have n8 : (kd != 8) = true := by simpa using fun e => hkind (.inr (.inr e))
        clear hSX hcc hal hX hkind
        go_wp2
        go_roundw
        case rel => exact ⟨k + 1, by omega, by go_num, HB2.out.1⟩
        case measure => simp [intOf]; omega
    · obtain rfl : n = k := by omega
      have hk1 : ¬ (n : Int) < (n : Int) := by omega
      go_wp2
      go_ret
      exact ⟨rfl, hB⟩
end Go.Proofs.YtjmnogpnjombgaaDoor
