/- law22: awake; RwAlone. -/
import Derived.Test.YtmhfpjnkjlhbpaaDoorRwT
namespace Go.Proofs.YtmhfpjnkjlhbpaaDoor
open Go.ChangeShapes Go.WideShapes Go.ChangeAt Go.RowKit Go.Deep
set_option linter.unusedVariables false
set_option maxRecDepth 100000
set_option linter.unusedSimpArgs false

theorem u32_cellsR {W : World} {b n : Nat} {v : Value} {xs : List Int} (h : W.ownsRow b 25 1 v n (xs.map (Value.int .u32))) (hn : xs.length = n) (h0 : 0 < n) : ∃ g o cap, v = .slice (some ⟨g, o, none⟩) n cap ∧ g < W.heap.size ∧ ∀ i, i < n → W.cell? ⟨g, o + i, none⟩ = some (.int .u32 (xs.getD i 0)) := by
  obtain ⟨A, cap, rfl, _, hs⟩ := own_sl h
  obtain ⟨g, o, rfl, hlt, hc⟩ := hs (by omega)
  refine ⟨g, o, cap, rfl, hlt, fun i hi => (hc i (by omega)).trans ?_⟩
  have hi2 : i < xs.length := by omega
  simp [List.getD_eq_getElem?_getD, List.getElem?_eq_getElem hi2]
set_option maxHeartbeats 1000000 in
theorem awake22_any (W : World) (hT : Tab W) (hO : ONam W) : Calls Tryd.prog 21 #[] W fun e W' => e = .returned (.bool true) ∧ Below W.heap.size W W' := by
  have hal := (Below.refl W.heap.size W).alloc (Nat.le_refl _) (.cells #[.int .i64 3, .int .i64 1, .int .i64 2, .int .i64 2] 3)
  have hb := Blk.new W 3 #[.int .i64 3, .int .i64 1, .int .i64 2, .int .i64 2]
  have cA := alone_any 1 0 (by decide) (by decide) [3, 1, 2, 2] (by unfold isRw; decide) (by decide) (some ⟨W.heap.size, 0, none⟩) 4 _ (hT.step hal) (hO.step hal) (fun _ => ⟨W.heap.size, 0, rfl, hb.lt, fun i hi j u hu => by
    rw [Nat.zero_add, hb.cell]
    have hj : j < 1 := (List.getElem?_eq_some_iff.1 hu).1
    obtain rfl : j = 0 := by omega
    have hi : i < 4 := hi
    rcases (by omega : i = 0 ∨ i = 1 ∨ i = 2 ∨ i = 3) with rfl | rfl | rfl | rfl <;> exact hu⟩)
  have HB := Lib.hid hal
  clear hal hb
  go_enter Tryd.func21, Tryd.ntmps21
  go_wp2_with fail
  refine cA.mono ?_
  rintro e W1 ⟨⟨vo, rfl, hr⟩, hB⟩
  obtain ⟨g, o, cap, rfl, _, hc⟩ := u32_cellsR (xs := rwO [3, 1, 2, 2] 4) (n := 4) hr rfl (by decide)
  have q0 : W1.cell? ⟨g, o, none⟩ = some (.int .u32 0) := hc 0 (by decide)
  have q1 : W1.cell? ⟨g, o + 1, none⟩ = some (.int .u32 1) := hc 1 (by decide)
  have q2 : W1.cell? ⟨g, o + 2, none⟩ = some (.int .u32 0) := hc 2 (by decide)
  have q3 : W1.cell? ⟨g, o + 3, none⟩ = some (.int .u32 2) := hc 3 (by decide)
  have HF := Lib.hid (step_below HB.out hB)
  clear cA hc hr hB
  go_wp2
  go_ret
  exact ⟨rfl, HF.out⟩
theorem int_infoR : (Tryd.prog.info? 3).map (fun i => (i.zero, i.size, i.bytes)) = some (some (.int .i64 0), 1, 8) := by kernel_rfl
/-- What is asked. -/
def rwAsk (Z : Nat → Int) (k : Nat) : List Nat := (List.range k).map fun i => 1 + (Z i).toNat % 3
theorem rwAsk_len (Z : Nat → Int) (k : Nat) : (rwAsk Z k).length = k := by unfold rwAsk; simp
theorem rwAsk_succ (Z : Nat → Int) (k : Nat) : rwAsk Z (k + 1) = rwAsk Z k ++ [1 + (Z k).toNat % 3] := by unfold rwAsk; rw [List.range_succ, List.map_append]; rfl
theorem rwAsk_get (Z : Nat → Int) {k n : Nat} (h : k < n) : (rwAsk Z n).getD k 0 = 1 + (Z k).toNat % 3 := by unfold rwAsk; simp [List.getD_eq_getElem?_getD, h]
theorem rwAsk_rw (Z : Nat → Int) (k : Nat) : ∀ c ∈ rwAsk Z k, isRw c := fun c hc => by
  obtain ⟨i, _, rfl⟩ := List.mem_map.1 hc
  unfold isRw; omega
def rwInts (l : List Nat) : List Value := l.map fun (c : Nat) => Value.int .i64 (c : Int)

set_option maxHeartbeats 4000000 in
theorem rwAlone_true (A : Option Addr) (n cap : Nat) (Z : Nat → Int) (threads t : Int) (hn : n ≤ cap) (hcm : cap ≤ maxLen) (hz : ∀ i, i < n → 0 ≤ Z i ∧ Z i ≤ 255) (hth : 0 ≤ threads ∧ threads ≤ 255) (ht : 0 ≤ t ∧ t ≤ 255) (w : World) (hT : Tab w) (hO : ONam w) (hs : Sl w A n (fun i => .int .u8 (Z i))) :
    Calls Tryd.prog 6 #[.slice A n cap, .int .u8 threads, .int .u8 t] w fun e w' => e = .returned (.bool true) ∧ Below w.heap.size w w' := by
  have cA := awake22_any w hT hO
  by_cases h40 : n ≤ 40
  · have hn40 : (n : Int) ≤ 40 := by omega
    have HW := Lib.hid (And.intro hT (And.intro hO (And.intro hs hz)))
    obtain ⟨nt, hnt⟩ : ∃ nt : Nat, 1 + threads % 8 = (nt : Int) := ⟨(1 + threads % 8).toNat, by omega⟩
    obtain ⟨tt, htt⟩ : ∃ tt : Nat, t % (nt : Int) = (tt : Int) := ⟨(t % (nt : Int)).toNat, by
      have := Int.emod_nonneg t (show (nt : Int) ≠ 0 by omega)
      omega⟩
    have hnt8 : 1 ≤ nt ∧ nt ≤ 8 := by omega
    have httn : tt < nt := by
      have := Int.emod_lt_of_pos t (show (0 : Int) < (nt : Int) by omega)
      omega
    clear hT hO hs hz
    go_enter Tryd.func6, Tryd.ntmps6
    go_wp2_with fail
    refine cA.mono ?_
    rintro e W1 ⟨rfl, hB1⟩
    have HB1 := Lib.hid hB1
    clear cA hB1
    have hn0 : (1 : Int) ≤ (nt : Int) := by omega
    have hn8 : (nt : Int) ≤ 8 := by omega
    go_wp2_with fail
    go_loopw [8, 9] (fun v8 v9 wr => ∃ k : Nat, k ≤ n ∧ v9 = .int .i64 k ∧ wr.ownsRow W1.heap.size 3 1 v8 k (rwInts (rwAsk Z k)) ∧ Below W1.heap.size W1 wr) (fun v8 v9 _ => n - (intOf v9).toNat)
    case atStart => exact ⟨0, Nat.zero_le _, rfl, ⟨rfl, .inl ⟨rfl, rfl⟩⟩, Below.refl _ _⟩
    case round =>
      obtain ⟨k, hk, rfl, hr, hB⟩ := hrel
      by_cases hlt : k < n
      · have hkn : (k : Int) < (n : Int) := by omega
        have hk0 : (0 : Int) ≤ (k : Int) := by omega
        obtain ⟨lb, lo, rfl, hlb, hcc⟩ := HW.out.2.2.1 (by omega)
        obtain ⟨z, hz⟩ : ∃ z : Nat, Z k = (z : Int) := ⟨(Z k).toNat, by have := (HW.out.2.2.2 k hlt).1; omega⟩
        have hz2 : (z : Int) ≤ 255 := by have := (HW.out.2.2.2 k hlt).2; omega
        have hz3 : (0 : Int) ≤ (z : Int) := by omega
        have c4 : wr.cell? ⟨lb, lo + k, none⟩ = some (.int .u8 (Z k)) := keepAt (HB1.out.trans (hB.mono HB1.out.size)) hlb (hcc k hlt)
        rw [hz] at c4
        obtain ⟨i0, hi, hy0, hy1, hy2⟩ := info_parts int_infoR
        obtain ⟨A8, cap8, rfl, _, _⟩ := own_cap hr
        have HR := Lib.hid (And.intro hr (And.intro hB hz))
        clear hcc hr hz hlb
        go_wp2_with (at_builtin; refine wpList_append_own_at _ rfl (.tmp 32) (.tmp 40) 39 rfl W1.heap.size 3 i0 _ 1 8 Tryd.underlying39 hi hy0 hy1 hy2 rfl (by decide) _ _ _ rfl (HR.out.1.alloc _) ⟨wr.heap.size, 0, none⟩ 1 1 [.int .i64 (1 + (z : Int) % 3)] rfl rfl (cell_one_new _ _ _) (by simp [Value.oneCell']) (by unfold maxLen; omega) (by omega) (Nat.le_trans HR.out.2.1.size (by simp)) ?_; intro v' w5 own5 hg5 hx5 hnew)
        have HG := Lib.hid hg5
        clear hg5 hx5 hnew
        go_roundw
        case rel =>
          refine ⟨k + 1, by omega, by go_num, ?_, ?_⟩
          · have e : rwInts (rwAsk Z (k + 1)) = rwInts (rwAsk Z k) ++ [.int .i64 (1 + (z : Int) % 3)] := by
              rw [rwAsk_succ, HR.out.2.2]
              unfold rwInts
              rw [List.map_append]
              show _ ++ [Value.int .i64 ((1 + (z : Int).toNat % 3 : Nat) : Int)] = _
              rw [Int.toNat_natCast, show ((1 + z % 3 : Nat) : Int) = 1 + (z : Int) % 3 by omega]
            rw [e]
            exact own5
          · exact below_own (HR.out.2.1.alloc HR.out.2.1.size _) (HR.out.1.alloc _) HG.out (Nat.le_refl _) (Nat.le_refl _)
        case measure => simp [intOf]; omega
      · obtain rfl : k = n := by omega
        obtain ⟨cs, hcs⟩ : ∃ cs, rwAsk Z k = cs := ⟨_, rfl⟩
        have hlen : cs.length = k := by rw [← hcs]; exact rwAsk_len Z k
        have hrw : ∀ c ∈ cs, isRw c := by rw [← hcs]; exact rwAsk_rw Z k
        rw [hcs] at hr
        obtain ⟨A8, cap8, e8, hle, hsl⟩ := own_sl hr
        subst e8
        have hB0 := HB1.out.trans (hB.mono HB1.out.size)
        have hsE : SlE wr A8 cs.length 1 (fun i => [Value.int .i64 ((cs.getD i 0 : Nat) : Int)]) := fun hpos => by
          obtain ⟨b, off, q1, q2, q3⟩ := hsl (by omega)
          refine ⟨b, off, q1, q2, fun i hi j u hu => ?_⟩
          have hj : j < 1 := (List.getElem?_eq_some_iff.1 hu).1
          obtain rfl : j = 0 := by omega
          have := q3 i (by omega)
          rw [Nat.mul_one, Nat.add_zero, this]
          cases hu
          unfold rwInts
          simp [List.getD_eq_getElem?_getD, List.getElem?_eq_getElem hi]
        have cC := alone_any nt tt httn hnt8.2 cs hrw (by omega) A8 cap8 wr (HW.out.1.step hB0) (HW.out.2.1.step hB0) hsE
        rw [hlen] at cC
        have HC := Lib.hid (And.intro hlen (And.intro hrw (And.intro hsl hB0)))
        clear hlen hrw hr hsl hB hB0 hsE hcs hle
        go_wp2_with fail
        refine cC.mono ?_
        rintro e W5 ⟨⟨vo, rfl, hro⟩, hB5⟩
        clear cC
        have HB5 := Lib.hid (HC.out.2.2.2.trans (hB5.mono HC.out.2.2.2.size))
        obtain ⟨A10, cap10, e10, hle10, hs10⟩ := own_sl hro
        subst e10
        have HO := Lib.hid (And.intro hs10 hB5)
        clear hro hs10 hB5 hle10
        go_wp2_with fail
        go_loopw [11, 12] (fun v11 v12 wq => ∃ j : Nat, j ≤ k ∧ v12 = .int .i64 j ∧ v11 = .bool (rwMd cs j != 0) ∧ Below W5.heap.size W5 wq) (fun v11 v12 _ => k - (intOf v12).toNat)
        case atStart => exact ⟨0, Nat.zero_le _, rfl, rfl, Below.refl _ _⟩
        case round =>
          obtain ⟨j, hj, rfl, rfl, hBj⟩ := hrel
          by_cases hlt2 : j < k
          · have hj0 : (0 : Int) ≤ (j : Int) := by omega
            have hj4 : (j : Int) < (k : Int) := by omega
            obtain ⟨lb, lo, rfl, hlb, hcc⟩ := HC.out.2.2.1 (by omega)
            obtain ⟨lb2, lo2, rfl, hlb2, hcc2⟩ := HO.out.1 (by omega)
            have hjc : j < cs.length := by have := HC.out.1; omega
            obtain ⟨c, hc⟩ : ∃ c, cs.getD j 0 = c := ⟨_, rfl⟩
            have hcr : isRw c := by rw [← hc]; exact HC.out.2.1 _ (cs_in cs j hjc)
            have q1 := keepAt (HO.out.2.trans (hBj.mono HO.out.2.size)) hlb (hcc j (by omega))
            have q2 := keepAt hBj hlb2 (hcc2 j (by omega))
            have e1 : (rwInts cs).getD j undef = .int .i64 (c : Int) := by
              rw [← hc]; unfold rwInts; simp [List.getD_eq_getElem?_getD, List.getElem?_eq_getElem hjc]
            obtain ⟨a, ha⟩ : ∃ a, rwAns (rwMd cs j) c = a := ⟨_, rfl⟩
            have e2 : ((rwO cs k).map (Value.int .u32)).getD j undef = .int .u32 a := by
              rw [← ha, ← hc]; unfold rwO; simp [List.getD_eq_getElem?_getD, hlt2]
            have q1' : wr.cell? ⟨lb, lo + j, none⟩ = some (.int .i64 (c : Int)) := q1.trans (congrArg some e1)
            have q2' : wr.cell? ⟨lb2, lo2 + j, none⟩ = some (.int .u32 a) := q2.trans (congrArg some e2)
            obtain ⟨b, hb⟩ : ∃ b, (rwMd cs j != 0) = b := ⟨_, rfl⟩
            have hnx : (rwMd cs (j + 1) != 0) = !(c == 2) := by
              rw [rwMd_succ cs j hjc, hc]
              unfold rwNext
              by_cases c2 : c = 2
              · rw [if_pos c2, c2]; rfl
              · rw [if_neg c2, show (c == 2) = false by simpa using c2]
                split
                · split <;> rfl
                · rename_i h; simpa using h
            have hcase : (c = 2 ∧ b = false ∧ a = 2) ∨ (c = 2 ∧ b = true ∧ a = 0) ∨ (c ≠ 2 ∧ b = false ∧ a = 0) ∨ (c ≠ 2 ∧ b = true ∧ a = 1) := by
              rw [← ha, ← hb]
              unfold rwAns
              by_cases c2 : c = 2
              · by_cases m : rwMd cs j = 0
                · exact .inl ⟨c2, by rw [m]; rfl, by rw [if_pos c2, if_pos m]⟩
                · exact .inr (.inl ⟨c2, by simpa using m, by rw [if_pos c2, if_neg m]⟩)
              · by_cases m : rwMd cs j = 0
                · exact .inr (.inr (.inl ⟨c2, by rw [m]; rfl, by rw [if_neg c2, if_pos m]⟩))
                · exact .inr (.inr (.inr ⟨c2, by simpa using m, by rw [if_neg c2, if_neg m]⟩))
            rw [hb]
            have HX := Lib.hid (And.intro hnx hBj)
            clear hnx hBj hcc hcc2 q1 q2 e1 e2 hb ha hc hcr hjc hlb hlb2
            rcases hcase with ⟨c2, rfl, rfl⟩ | ⟨c2, rfl, rfl⟩ | ⟨c2, rfl, rfl⟩ | ⟨c2, rfl, rfl⟩
            case' inl => subst c2
            case' inr.inl => subst c2
            case' inr.inr.inl => have c2i : ¬ (c : Int) = 2 := by omega
            case' inr.inr.inr => have c2i : ¬ (c : Int) = 2 := by omega
            all_goals
              have HY := Lib.hid HX.out.1
              go_wp2
              go_roundw
              case rel =>
                refine ⟨j + 1, by omega, by go_num, ?_, HX.out.2⟩
                rw [HY.out]
                first | rfl | (rw [show (c == 2) = false by simpa using c2]; rfl)
              case measure => simp [intOf]; omega
          · obtain rfl : j = k := by omega
            have hj4 : ¬ (j : Int) < (j : Int) := by omega
            have HF := Lib.hid (HB5.out.trans (hBj.mono HB5.out.size))
            clear hBj
            go_wp2
            go_ret
            exact ⟨rfl, HF.out⟩
  · have hn40 : ¬ (n : Int) ≤ 40 := by omega
    have hn41 : (40 : Int) < (n : Int) := by omega
    go_enter Tryd.func6, Tryd.ntmps6
    go_wp2_with fail
    refine cA.mono ?_
    rintro e W1 ⟨rfl, hB1⟩
    have cA2 := awake22_any W1 (hT.step hB1) (hO.step hB1)
    clear cA
    go_wp2_with fail
    refine cA2.mono ?_
    rintro e W2 ⟨rfl, hB2⟩
    have HF := Lib.hid (step_below hB1 hB2)
    clear cA2 hB1 hB2
    go_wp2
    go_ret
    exact ⟨rfl, HF.out⟩
end Go.Proofs.YtmhfpjnkjlhbpaaDoor
