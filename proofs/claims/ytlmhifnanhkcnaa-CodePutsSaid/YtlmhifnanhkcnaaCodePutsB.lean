/- CodePuts, where the fields are bytes. -/
import Derived.Test.YtlmhifnanhkcnaaCodePuts
import Derived.Deep.RegionHeld3
import Derived.Deep.DeepCutAuto
import Derived.Deep.DeepMust
namespace Go.Proofs.Ytlmhifnanhkcnaa
open Go.ChangeShapes Go.WideShapes Go.ChangeAt Go.RowKit
set_option linter.unusedVariables false

theorem refPut_abs (o a b c k : Int) (ho : inByte o) (ha : inByte a) (hb : inByte b) (hc : inByte c) (h0 : 0 ≤ k) (h1 : k ≤ 4294967295) (w : World) :
    Calls Try.prog 7 #[.agg #[.int .i64 o, .int .i64 a, .int .i64 b, .int .i64 c, .int .u32 k]] w fun e w' => ∃ g, e = .returned (.slice (some ⟨g, 0, none⟩) 8 8) ∧
      w'.ownsRow w.heap.size 5 1 (.slice (some ⟨g, 0, none⟩) 8 8) 8 ((instrBytes o a b c k).map (Value.int .u8)) ∧ Below w.heap.size w w' :=
  (refPut_any o a b c k ho ha hb hc h0 h1 w).mono fun e w' ⟨he, hw⟩ => by
    subst hw
    have hb := (((Below.refl w.heap.size w).alloc (Nat.le_refl _) (.cells #[.int .i64 o, .int .i64 a, .int .i64 b, .int .i64 c, .int .u32 k] 24)))
    refine ⟨_, he, ?_, hb.alloc hb.size _⟩
    have := Blk.new (w.alloc (.cells #[.int .i64 o, .int .i64 a, .int .i64 b, .int .i64 c, .int .u32 k] 24)) 5 ((instrBytes o a b c k).map (Value.int .u8)).toArray
    rw [show (w.alloc (.cells #[.int .i64 o, .int .i64 a, .int .i64 b, .int .i64 c, .int .u32 k] 24)).heap.size = w.heap.size + 1 from by simp] at this
    exact own_lit this rfl (by omega) (by unfold maxLen; omega)

theorem puts_keep {w1 w3 : World} {bx g cap base : Nat} {o a b c k : Int} (hb : Below w1.heap.size w1 w3) (hlt : bx < w1.heap.size)
    (k0 : w1.cell? ⟨bx, 0, none⟩ = some (.int .i64 o)) (k1 : w1.cell? ⟨bx, 1, none⟩ = some (.int .i64 a)) (k2 : w1.cell? ⟨bx, 2, none⟩ = some (.int .i64 b)) (k3 : w1.cell? ⟨bx, 3, none⟩ = some (.int .i64 c)) (k4 : w1.cell? ⟨bx, 4, none⟩ = some (.int .u32 k))
    (hown : w1.ownsRow base 5 1 (.slice (some ⟨g, 0, none⟩) 8 cap) 8 ((instrBytes o a b c k).map (Value.int .u8))) :
    (w3.cell? ⟨bx, 0, none⟩ = some (.int .i64 o) ∧ w3.cell? ⟨bx, 1, none⟩ = some (.int .i64 a) ∧ w3.cell? ⟨bx, 2, none⟩ = some (.int .i64 b) ∧ w3.cell? ⟨bx, 3, none⟩ = some (.int .i64 c) ∧ w3.cell? ⟨bx, 4, none⟩ = some (.int .u32 k)) ∧
      (convert 25 9 (.slice (some ⟨g, 0, none⟩) 8 cap)).run Try.prog w3 = .ok (.string (strOfNums (instrBytes o a b c k))) w3 :=
  ⟨⟨keep_cell hb hlt k0, keep_cell hb hlt k1, keep_cell hb hlt k2, keep_cell hb hlt k3, keep_cell hb hlt k4⟩, conv_own (own_below hown (Nat.le_refl _) hb)⟩

theorem numAt4' (Z : Nat → Int) (i : Nat) : numAt Z i 4 = Z i + 256 * (Z (i + 1) + 256 * (Z (i + 2) + 256 * Z (i + 3))) := by
  simp [numAt, Nat.add_assoc]

theorem put_bytes {o a b c k : Int} (ho : inByte o) (ha : inByte a) (hb : inByte b) (hc : inByte c) (h0 : 0 ≤ k) (h1 : k ≤ 4294967295) (i : Nat) : 0 ≤ (instrBytes o a b c k).getD i 0 ∧ (instrBytes o a b c k).getD i 0 ≤ 255 := by
  unfold inByte at ho ha hb hc
  unfold instrBytes
  rcases i with _ | _ | _ | _ | _ | _ | _ | _ | i <;> simp <;> omega

theorem puts_own {w4 : World} {base len : Nat} {v2 : Value} {B Z : Nat → Int} {o a b c k : Int} (hB : B = fun i => (instrBytes o a b c k).getD i 0)
    (ho : inByte o) (ha : inByte a) (hb : inByte b) (hc : inByte c) (h0 : 0 ≤ k) (h1 : k ≤ 4294967295) (hz : ∀ i, i < len → 0 ≤ Z i ∧ Z i ≤ 255)
    (h : w4.ownsRow base 5 1 v2 (8 + len) ([] ++ (List.range (8 * 1)).map (fun i => Value.int .u8 (B i)) ++ (List.range (len * 1)).map (fun i => Value.int .u8 (Z i)))) :
    ∃ (A : Option Addr) (cap : Nat) (Y : Nat → Int), v2 = .slice A (8 + len) cap ∧ Sl w4 A (8 + len) (fun i => .int .u8 (Y i)) ∧ (∀ i, i < 8 + len → 0 ≤ Y i ∧ Y i ≤ 255) ∧ Y 0 = o ∧ Y 1 = a ∧ Y 2 = b ∧ Y 3 = c ∧ numAt Y 4 4 = k := by
  obtain ⟨A, cap, hv, _, hs⟩ := own_sl h
  have hbb := put_bytes ho ha hb hc h0 h1
  rw [Nat.mul_one] at hs
  refine ⟨A, cap, fun i => if i < 8 then B i else Z (i - 8), hv, hs.congr (fun i hi => ?_), fun i hi => ?_, by simp [hB, instrBytes], by simp [hB, instrBytes], by simp [hB, instrBytes], by simp [hB, instrBytes], ?_⟩
  · rcases Nat.lt_or_ge i 8 with h8 | h8
    · simp [h8, List.getD_eq_getElem?_getD, List.getElem?_append]
    · have h9 : ¬ i < 8 := by omega
      have h10 : i - 8 < len := by omega
      simp [h9, h10, List.getD_eq_getElem?_getD, List.getElem?_append]
  · rcases Nat.lt_or_ge i 8 with h8 | h8
    · simp only [h8, if_true, hB]
      exact hbb i
    · simp only [show ¬ i < 8 from by omega, if_false]
      exact hz _ (by omega)
  · rw [numAt4']
    simp [hB, instrBytes]
    omega

set_option maxRecDepth 100000 in
set_option maxHeartbeats 1000000 in
theorem codePuts_yes (o a b c k : Int) (ho : inByte o) (ha : inByte a) (hb : inByte b) (hc : inByte c) (h0 : 0 ≤ k) (h1 : k ≤ 4294967295) (A : Option Addr) (len cap : Nat) (Z : Nat → Int) (w : World) (hl : len ≤ 2000)
    (hsl : Sl w A len (fun i => .int .u8 (Z i))) (hz : ∀ i, i < len → 0 ≤ Z i ∧ Z i ≤ 255) :
    Calls Try.prog 3 #[.agg #[.int .i64 o, .int .i64 a, .int .i64 b, .int .i64 c, .int .u32 k], .slice A len cap] w fun e w' => e = .returned (.bool true) ∧ Below w.heap.size w w' := by
  obtain ⟨i0, hi, hz0, hz1, hz2⟩ := info_parts byte_info
  have hl' : ¬ (2000 : Int) < (len : Int) := by omega
  have hB := (Below.refl w.heap.size w).alloc (Nat.le_refl _) (Obj.cells #[.int .i64 o, .int .i64 a, .int .i64 b, .int .i64 c, .int .u32 k] 24)
  have hq := Blk.new w 24 #[.int .i64 o, .int .i64 a, .int .i64 b, .int .i64 c, .int .u32 k]
  have r := And.intro ho (And.intro ha (And.intro hb hc))
  unfold inByte at r
  obtain ⟨⟨r1, r2⟩, ⟨r3, r4⟩, ⟨r5, r6⟩, ⟨r7, r8⟩⟩ := r
  have HO := Lib.hid (And.intro ho (And.intro ha (And.intro hb hc)))
  clear ho ha hb hc
  go_enter Try.func3, Try.ntmps3
  go_wp2_with fail
  refine (awake_any _).mono ?_
  rintro e w0 ⟨rfl, hb0⟩
  have hq0 := hq.below hb0 hq.lt
  have hB0 := step_below hB hb0
  have k0 := hq0.cell 0
  have k1 := hq0.cell 1
  have k2 := hq0.cell 2
  have k3 := hq0.cell 3
  have k4 := hq0.cell 4
  simp only [List.getElem?_toArray, List.getElem?_cons_zero, List.getElem?_cons_succ] at k0 k1 k2 k3 k4
  clear hq hb0 hB
  go_wp2_with fail
  refine (put_yes o a b c k HO.out.1 HO.out.2.1 HO.out.2.2.1 HO.out.2.2.2 h0 h1 _).mono ?_
  rintro e w1 ⟨g, gcap, rfl, hown, hb1⟩
  have hq1 := hq0.below hb1 hq0.lt
  have hB1 := step_below hB0 hb1
  clear k0 k1 k2 k3 k4 hq0 hb1
  have k0 := hq1.cell 0
  have k1 := hq1.cell 1
  have k2 := hq1.cell 2
  have k3 := hq1.cell 3
  have k4 := hq1.cell 4
  simp only [List.getElem?_toArray, List.getElem?_cons_zero, List.getElem?_cons_succ] at k0 k1 k2 k3 k4
  have hlt1 := hq1.lt
  have hconv := conv_own hown
  go_upto_region 6 with fail
  go_cut [76] (fun s wx => s = .bool false ∧ wx.ownsRow w0.heap.size 5 1 (.slice (some ⟨g, 0, none⟩) 8 gcap) 8 ((instrBytes o a b c k).map (Value.int .u8)) ∧ Blk wx w.heap.size 24 #[.int .i64 o, .int .i64 a, .int .i64 b, .int .i64 c, .int .u32 k] ∧ Below w.heap.size w wx)
  case first =>
    have hK : ∀ w3, Below w1.drew.heap.size w1.drew w3 → _ := fun w3 hb3 => puts_keep (w1 := w1.drew) hb3 hlt1 k0 k1 k2 k3 k4 (World.ownsRow.drew hown)
    have HK := Lib.hid hK
    clear hK
    have hconvA := conv_own (World.ownsRow.drew hown)
    go_region_with (first | (go_at_call 7; refine (refPut_abs o a b c k HO.out.1 HO.out.2.1 HO.out.2.2.1 HO.out.2.2.2 h0 h1 _).mono ?_; rintro e w3 ⟨g3, rfl, hown3, hb3⟩; have hconv3 := conv_own hown3; have hS3 := HK.out w3 hb3; obtain ⟨hS4, hconvB⟩ := hS3))
    all_goals
      go_wp2_with fail
      go_meet
      case rel => exact ⟨rfl, own_below (World.ownsRow.drew hown) (Nat.le_refl _) hb3, Blk.below (w := w1.drew) hq1 hb3 hlt1, step_below hB1.drew hb3⟩
  case rest =>
    obtain ⟨rfl, hown', hq', hB'⟩ := hcut
    obtain ⟨A1, cap1, e1, _, hs1⟩ := own_sl hown'
    injection e1 with e1 _ e2
    subst e1
    subst e2
    obtain ⟨B, hBd⟩ : ∃ B : Nat → Int, B = fun i => (instrBytes o a b c k).getD i 0 := ⟨_, rfl⟩
    have HBd := Lib.hid hBd
    replace hs1 := hs1.congr (D := fun i => .int .u8 (B i)) (fun i hi => by
      rw [hBd]
      rcases (by omega : i = 0 ∨ i = 1 ∨ i = 2 ∨ i = 3 ∨ i = 4 ∨ i = 5 ∨ i = 6 ∨ i = 7) with rfl | rfl | rfl | rfl | rfl | rfl | rfl | rfl <;> rfl)
    clear hBd
    have hslc := hsl.below (Nat.le_refl _) hB'
    have hB2 := hB'.alloc hB'.size (Obj.cells #[] 5)
    have hq2 := hq'.alloc (Obj.cells #[] 5)
    have hnew := Blk.new wc 5 #[]
    have hown0 := own_lit (n := 0) (base := wc.heap.size) hnew rfl (Nat.le_refl _) (Nat.zero_le _)
    have hs2 := hs1.below (Nat.le_refl _) ((Below.refl wc.heap.size wc).alloc (Nat.le_refl _) (Obj.cells #[] 5))
    have hsl2 := hslc.below (Nat.le_refl _) ((Below.refl wc.heap.size wc).alloc (Nat.le_refl _) (Obj.cells #[] 5))
    clear hown' hs1 hnew hconv hown k0 k1 k2 k3 k4 hq1 hlt1
    have hne : 0 < len * 1 → ∀ b off, A = some ⟨b, off, none⟩ → b ≠ wc.heap.size := fun hn b off e => by
      obtain ⟨b', off', e', hlt, _⟩ := hslc (by omega)
      rw [e] at e'
      injection e' with e'
      injection e' with e3 _
      omega
    rw [show len = len * 1 from (Nat.mul_one _).symm] at hsl2
    have hblt : w.heap.size < wc.heap.size := hq'.lt
    clear hslc
    go_wp2_with (first
      | (at_builtin; refine wpList_append_sl _ rfl (.tmp 78) (.tmp 79) 25 rfl wc.heap.size 5 i0 _ 1 1 Try.underlying25 hi hz0 hz1 hz2 rfl (by omega) _ 0 _ rfl hown0 _ 8 _ (fun i => .int .u8 (B i)) rfl hs2 (fun _ _ => rfl) (by unfold maxLen; omega) (by omega) (by simp) ?_; intro v1 w3 hown3 hg3 hv3; clear hown0; go_must (have hsl3 := hsl2.grown (r := wc.heap.size) hg3 hne; have hq3 := hq2.grown hg3 (fun e => absurd (Option.some.inj e) (Nat.ne_of_lt hblt)); have hB3 := hB2.grown hg3 hB2.size (fun r e => by have hh : wc.heap.size = r := Option.some.inj e; omega); clear hsl2 hq2 hB2))
      | (at_builtin; go_must (refine wpList_append_sl _ rfl (.tmp 80) (.tmp 81) 25 rfl wc.heap.size 5 i0 _ 1 1 Try.underlying25 hi hz0 hz1 hz2 rfl (by omega) v1 8 _ rfl hown3 A len cap (fun i => .int .u8 (Z i)) rfl hsl3 (fun _ _ => rfl) (by unfold maxLen; omega) (by omega) (by have hh := hg3.size; simp at hh; omega) ?_; intro v2 w4 hown4 hg4 hv4)))
    have hq4 := hq3.grown hg4 (fun e => by
      rcases hv3 with h' | h'
      · exact absurd (Option.some.inj (e.trans h')) (Nat.ne_of_lt hblt)
      · have h3 := Option.some.inj (e.trans h')
        simp at h3
        omega)
    have hB4 := hB3.grown hg4 hB3.size (fun r e => by
      rcases hv3 with h' | h'
      · have h3 : wc.heap.size = r := Option.some.inj (h'.symm.trans e)
        omega
      · have h3 := Option.some.inj (h'.symm.trans e)
        simp at h3
        omega)
    obtain ⟨hY1, hY2, hY3, hY4⟩ := HO.out
    obtain ⟨A2, cap2, Y, rfl, hsY, hzY, y0, y1, y2, y3, y4⟩ := puts_own HBd.out hY1 hY2 hY3 hY4 h0 h1 hz hown4
    clear hown4 hown3 hsl3 hq3 hB3 hg3 hg4 hs2 hv3 hv4
    refine (get_ok A2 (8 + len) cap2 Y w4 (by omega) (by omega) hsY hzY).mono ?_
    rw [y0, y1, y2, y3, y4]
    rintro e w5 ⟨rfl, hb5⟩
    have hq5 := hq4.below hb5 hq4.lt
    have hB5 := step_below hB4 hb5
    clear hq4 hb5 hB4 y0 y1 y2 y3 y4 hsY hzY
    have hB6 := hB5.alloc hB5.size (Obj.cells #[.int .i64 o, .int .i64 a, .int .i64 b, .int .i64 c, .int .u32 k] 24)
    have hq6 := hq5.alloc (Obj.cells #[.int .i64 o, .int .i64 a, .int .i64 b, .int .i64 c, .int .u32 k] 24)
    have k0 := hq6.cell 0
    have k1 := hq6.cell 1
    have k2 := hq6.cell 2
    have k3 := hq6.cell 3
    have k4 := hq6.cell 4
    simp only [List.getElem?_toArray, List.getElem?_cons_zero, List.getElem?_cons_succ] at k0 k1 k2 k3 k4
    go_wp2
    go_ret
    exact ⟨rfl, ⟨hB6.os, hB6.tape, hB6.output, hB6.size, hB6.block⟩⟩
end Go.Proofs.Ytlmhifnanhkcnaa
