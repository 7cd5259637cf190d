/- law19: awake. law15.One: is there never more than one in? Machines of threads (plain): what serves the laws. pick.Of. The contract of pick.Read: the picks of bytes, in new memory. -/
import Derived.Test.YtmhfpjnkjlhbpaaGreatDoorQb36
import Derived.Test.YtmhfpjnkjlhbpaaGreatDoorQb28
import Derived.Test.YtmhfpjnkjlhbpaaGreatDoorQb33
import Derived.Test.YtmhfpjnkjlhbpaaGreatDoorQb25
import Derived.Test.YtmhfpjnkjlhbpaaGreatDoorQb34
import Derived.Test.YtmhfpjnkjlhbpaaGreatDoorQb01
namespace Go.Proofs.YtmhfpjnkjlhbpaaGreatDoor
open Go.ChangeShapes Go.WideShapes Go.ChangeAt Go.RowKit Go.Deep
set_option linter.unusedVariables false
set_option maxRecDepth 100000
set_option linter.unusedSimpArgs false

theorem read2_len : (BB.e.sread 16 2).close.out.length = 10 := by kernel_rfl
set_option maxHeartbeats 1000000 in
theorem awake19 (W : World) (hT : Tab W) : Calls Tryz.prog 14 #[] W fun e W' => e = .returned (.bool true) ∧ Below W.heap.size W W' := by
  have cC := code_read 2 1 16 0 0 (by decide) (by decide) (by decide) (by decide) (by decide) W hT
  go_enter Tryz.func14, Tryz.ntmps14
  go_wp2_with fail
  refine cC.mono ?_
  rintro e W1 ⟨⟨v, rfl, og, cap, cs, rfl, _⟩, hB⟩
  rw [read2_len]
  clear cC
  go_wp2
  go_ret
  exact ⟨rfl, hB⟩
end Go.Proofs.YtmhfpjnkjlhbpaaGreatDoor
namespace Go.Proofs.YtmhfpjnkjlhbpaaGreatDoor
open Go.ChangeShapes Go.WideShapes Go.ChangeAt Go.RowKit Go.Deep
set_option linter.unusedVariables false
set_option maxRecDepth 100000
set_option linter.unusedSimpArgs false

theorem evt_infoO : (Tryz.prog.info? 65).map (·.size) = some 8 := by kernel_rfl
theorem oneQ_none (l : List Evt) : l.foldl oneQ none = none := by
  induction l with
  | nil => rfl
  | cons x l ih => rw [List.foldl_cons]; exact ih
theorem oneF_take {l : List Evt} (h : oneF l ≠ none) (k : Nat) : oneF (l.take k) ≠ none := fun e => h (by
  unfold oneF at e ⊢
  rw [← List.take_append_drop k l, List.foldl_append, e, oneQ_none])
set_option maxHeartbeats 4000000 in
theorem one_any (A : Option Addr) (n cap : Nat) (l : List Evt) (hl : l.length = n) (hn : n ≤ 1000000000) (W : World) (he : SlE W A n 8 (fun i => (l.getD i ev0).cells)) (ho : oneF l ≠ none) :
    Calls Tryz.prog 48 #[.slice A n cap] W fun e W' => e = .returned (.bool true) ∧ Below W.heap.size W W' := by
  have HH := Lib.hid (And.intro he (And.intro hl ho))
  clear he hl ho
  go_enter Tryz.func48, Tryz.ntmps48
  go_wp2
  go_loopw [3, 4] (fun v3 v4 wr => ∃ (k : Nat) (c : Int), k ≤ n ∧ v4 = .int .i64 (k : Int) ∧ v3 = .int .i64 c ∧ oneF (l.take k) = some c ∧ Below W.heap.size W wr) (fun _ v4 _ => n - (intOf v4).toNat)
  case atStart => exact ⟨0, -1, Nat.zero_le _, rfl, rfl, rfl, Below.refl _ _⟩
  case round =>
    obtain ⟨k, c, hk, rfl, rfl, hc, hB⟩ := hrel
    by_cases hkn : k < n
    case neg =>
      have hkn' : ¬ (k : Int) < (n : Int) := by omega
      have HB := Lib.hid hB
      clear hB hc
      go_wp2
      go_ret
      exact ⟨rfl, HB.out⟩
    case pos =>
      have hk0 : (0 : Int) ≤ (k : Int) := by omega
      have hk1 : (k : Int) < (n : Int) := by omega
      obtain ⟨b, off, rfl, hlt, hcc⟩ := HH.out.1 (by omega)
      obtain ⟨x, hx⟩ : ∃ x, l.getD k ev0 = x := ⟨_, rfl⟩
      have hra : wr.rangeAt b (off + k * 8) x.cells := fun j v hv => by rw [← hx] at hv; exact keepAt hB hlt (hcc k hkn j v hv)
      have q0 := hra 0 _ rfl
      rw [Nat.add_zero] at q0
      have hs := oneF_take HH.out.2.2 (k + 1)
      have hsn : oneF (l.take (k + 1)) = oneQ (some c) x := by rw [take_snoc l k ev0 (by rw [HH.out.2.1]; exact hkn), oneF_snoc, hc, hx]
      rw [hsn] at hs
      obtain ⟨kd, wh, pc, ad, vl, ol, kk, ok⟩ := x
      dsimp only at q0
      have hal := (Below.refl wr.heap.size wr).alloc (Nat.le_refl _) (.cells #[.int .i64 0, .int .i64 0, .int .i64 0, .int .i64 0, .int .u32 0, .int .u32 0, .int .u32 0, .bool false] 65)
      have HR := Lib.hid (And.intro hsn (And.intro hB hal))
      have HS := Lib.hid hs
      clear hsn hB hal hc hcc hx hs
      by_cases h7 : kd = 7
      case neg =>
        have k7 : (kd != 7) = true := by simpa using h7
        go_wp2_with (first
          | (refine wpList_load_mid rfl 65 (.tmp 14) rfl b (off + k * 8) rfl [.int .i64 kd, .int .i64 wh, .int .i64 pc, .int .i64 ad, .int .u32 vl, .int .u32 ol, .int .u32 kk, .bool ok] _ hra Tryz.underlying65 rfl evt_infoO ?_)
          | (refine wpList_store_row rfl 65 (.tmp 5) (.tmp 15) rfl _ rfl #[.int .i64 kd, .int .i64 wh, .int .i64 pc, .int .i64 ad, .int .u32 vl, .int .u32 ol, .int .u32 kk, .bool ok] rfl 65 _ (Blk.new _ _ _) rfl evt_infoO (by simp [Value.oneCell']) ?_; intro w1 hb1 hg1; have x0 := (hb1.cell 0).trans rfl; have HW := Lib.hid (below_row HR.out.2.2 hg1 HR.out.2.2.size (Nat.le_refl _)); clear hb1 hg1))
        go_roundw
        case rel =>
          have e1 := HR.out.1
          unfold oneQ at e1
          dsimp only at e1
          rw [if_pos h7] at e1
          exact ⟨k + 1, c, by omega, by go_num, rfl, e1, step_below HR.out.2.1 HW.out⟩
        case measure => simp [intOf]; omega
      case pos =>
        subst h7
        by_cases h1 : kk = 1 ∧ vl = 0
        case pos =>
          obtain ⟨rfl, rfl⟩ := h1
          have hc0 : ¬ (0 : Int) ≤ c := fun q => by
            have z := HS.out
            unfold oneQ at z
            dsimp only at z
            rw [if_neg (by decide), if_pos ⟨rfl, rfl⟩, if_pos q] at z
            exact z rfl
          go_wp2_with (first
            | (refine wpList_load_mid rfl 65 (.tmp 14) rfl b (off + k * 8) rfl [.int .i64 7, .int .i64 wh, .int .i64 pc, .int .i64 ad, .int .u32 0, .int .u32 ol, .int .u32 1, .bool ok] _ hra Tryz.underlying65 rfl evt_infoO ?_)
            | (refine wpList_store_row rfl 65 (.tmp 5) (.tmp 15) rfl _ rfl #[.int .i64 7, .int .i64 wh, .int .i64 pc, .int .i64 ad, .int .u32 0, .int .u32 ol, .int .u32 1, .bool ok] rfl 65 _ (Blk.new _ _ _) rfl evt_infoO (by simp [Value.oneCell']) ?_; intro w1 hb1 hg1; have x0 := (hb1.cell 0).trans rfl; have x1 := (hb1.cell 1).trans rfl; have x4 := (hb1.cell 4).trans rfl; have x6 := (hb1.cell 6).trans rfl; have HW := Lib.hid (below_row HR.out.2.2 hg1 HR.out.2.2.size (Nat.le_refl _)); clear hb1 hg1))
          go_roundw
          case rel =>
            have e1 := HR.out.1
            unfold oneQ at e1
            dsimp only at e1
            rw [if_neg (by decide), if_pos ⟨rfl, rfl⟩, if_neg hc0] at e1
            exact ⟨k + 1, wh, by omega, by go_num, rfl, e1, step_below HR.out.2.1 HW.out⟩
          case measure => simp [intOf]; omega
        case neg =>
          have e1 : oneF (l.take (k + 1)) = if kk = 2 then (if c ≠ wh then none else some (-1)) else some c := by
            have z := HR.out.1
            unfold oneQ at z
            dsimp only at z
            rw [if_neg (by decide), if_neg h1] at z
            exact z
          by_cases h2 : kk = 2
          case pos =>
            subst h2
            rw [if_pos rfl] at e1
            have hcw : c = wh := Classical.byContradiction fun q => by
              rw [if_pos q, HR.out.1] at e1
              exact HS.out e1
            subst hcw
            rw [if_neg (by simp)] at e1
            have E1 := Lib.hid e1
            clear e1 h1
            go_wp2_with (first
              | (refine wpList_load_mid rfl 65 (.tmp 14) rfl b (off + k * 8) rfl [.int .i64 7, .int .i64 c, .int .i64 pc, .int .i64 ad, .int .u32 vl, .int .u32 ol, .int .u32 2, .bool ok] _ hra Tryz.underlying65 rfl evt_infoO ?_)
              | (refine wpList_store_row rfl 65 (.tmp 5) (.tmp 15) rfl _ rfl #[.int .i64 7, .int .i64 c, .int .i64 pc, .int .i64 ad, .int .u32 vl, .int .u32 ol, .int .u32 2, .bool ok] rfl 65 _ (Blk.new _ _ _) rfl evt_infoO (by simp [Value.oneCell']) ?_; intro w1 hb1 hg1; have x0 := (hb1.cell 0).trans rfl; have x1 := (hb1.cell 1).trans rfl; have x4 := (hb1.cell 4).trans rfl; have x6 := (hb1.cell 6).trans rfl; have HW := Lib.hid (below_row HR.out.2.2 hg1 HR.out.2.2.size (Nat.le_refl _)); clear hb1 hg1))
            go_roundw
            case rel => exact ⟨k + 1, -1, by omega, by go_num, rfl, E1.out, step_below HR.out.2.1 HW.out⟩
            case measure => simp [intOf]; omega
          case neg =>
            rw [if_neg h2] at e1
            have E1 := Lib.hid e1
            have k2 : (kk == 2) = false := by simpa using h2
            clear e1 h2
            by_cases h3 : kk = 1
            case pos =>
              subst h3
              have hv : (vl == 0) = false := by
                simp only [beq_eq_false_iff_ne]
                exact fun q => h1 ⟨rfl, q⟩
              clear h1 k2
              go_wp2_with (first
                | (refine wpList_load_mid rfl 65 (.tmp 14) rfl b (off + k * 8) rfl [.int .i64 7, .int .i64 wh, .int .i64 pc, .int .i64 ad, .int .u32 vl, .int .u32 ol, .int .u32 1, .bool ok] _ hra Tryz.underlying65 rfl evt_infoO ?_)
                | (refine wpList_store_row rfl 65 (.tmp 5) (.tmp 15) rfl _ rfl #[.int .i64 7, .int .i64 wh, .int .i64 pc, .int .i64 ad, .int .u32 vl, .int .u32 ol, .int .u32 1, .bool ok] rfl 65 _ (Blk.new _ _ _) rfl evt_infoO (by simp [Value.oneCell']) ?_; intro w1 hb1 hg1; have x0 := (hb1.cell 0).trans rfl; have x1 := (hb1.cell 1).trans rfl; have x4 := (hb1.cell 4).trans rfl; have x6 := (hb1.cell 6).trans rfl; have HW := Lib.hid (below_row HR.out.2.2 hg1 HR.out.2.2.size (Nat.le_refl _)); clear hb1 hg1))
              go_roundw
              case rel => exact ⟨k + 1, c, by omega, by go_num, rfl, E1.out, step_below HR.out.2.1 HW.out⟩
              case measure => simp [intOf]; omega
            case neg =>
              have k1 : (kk == 1) = false := by simpa using h3
              clear h1 h3
              go_wp2_with (first
                | (refine wpList_load_mid rfl 65 (.tmp 14) rfl b (off + k * 8) rfl [.int .i64 7, .int .i64 wh, .int .i64 pc, .int .i64 ad, .int .u32 vl, .int .u32 ol, .int .u32 kk, .bool ok] _ hra Tryz.underlying65 rfl evt_infoO ?_)
                | (refine wpList_store_row rfl 65 (.tmp 5) (.tmp 15) rfl _ rfl #[.int .i64 7, .int .i64 wh, .int .i64 pc, .int .i64 ad, .int .u32 vl, .int .u32 ol, .int .u32 kk, .bool ok] rfl 65 _ (Blk.new _ _ _) rfl evt_infoO (by simp [Value.oneCell']) ?_; intro w1 hb1 hg1; have x0 := (hb1.cell 0).trans rfl; have x1 := (hb1.cell 1).trans rfl; have x4 := (hb1.cell 4).trans rfl; have x6 := (hb1.cell 6).trans rfl; have HW := Lib.hid (below_row HR.out.2.2 hg1 HR.out.2.2.size (Nat.le_refl _)); clear hb1 hg1))
              go_roundw
              case rel => exact ⟨k + 1, c, by omega, by go_num, rfl, E1.out, step_below HR.out.2.1 HW.out⟩
              case measure => simp [intOf]; omega
theorem One_any (A : Option Addr) (n cap : Nat) (l : List Evt) (hl : l.length = n) (hn : n ≤ 1000000000) (W : World) (he : SlE W A n 8 (fun i => (l.getD i ev0).cells)) (ho : oneF l ≠ none) :
    Calls Tryz.prog 19 #[.slice A n cap] W fun e W' => e = .returned (.int .i64 1) ∧ Below W.heap.size W W' := by
  have cC := one_any A n cap l hl hn W he ho
  go_enter Tryz.func19, Tryz.ntmps19
  go_wp2_with fail
  with_reducible refine cC.mono ?_
  rintro e W1 ⟨rfl, hB⟩
  clear cC
  go_wp2_with go_in
  all_goals go_ret
  all_goals exact ⟨rfl, hB⟩
end Go.Proofs.YtmhfpjnkjlhbpaaGreatDoor
namespace Go.Proofs.YtmhfpjnkjlhbpaaGreatDoor
open Go.ChangeShapes Go.WideShapes Go.ChangeAt Go.RowKit Go.Deep
set_option linter.unusedVariables false
set_option maxRecDepth 100000
set_option linter.unusedSimpArgs false

theorem tRun_mem {B : MB} : ∀ (l : List (Int × Int)) (s : Mst), (tRun B s l).mem.length = s.mem.length
  | [], s => rfl
  | x :: l, s => (tRun_mem l (tPick B s x)).trans (tPick_mem x)
theorem doneM_at {s : Mst} (h : doneM s = true) {t : Nat} (ht : t < s.ths.length) : doneT s t = true := List.all_eq_true.1 h t (List.mem_range.2 ht)
theorem doneT_two {s : Mst} {t : Nat} (h : doneT s t = true) (hs : (thM s t).st = 0 ∨ (thM s t).st = 1 ∨ (thM s t).st = 2) : (thM s t).st = 2 ∧ bufM s t = [] := by
  unfold doneT at h
  simp only [Bool.and_eq_true, bne_iff_ne, ne_eq, beq_iff_eq] at h
  obtain ⟨⟨h1, h2⟩, h3⟩ := h
  exact ⟨(hs.resolve_left h1).resolve_left h2, List.eq_nil_of_length_eq_zero h3⟩
theorem mem_val {l : List Int} {i : Nat} (h : i < l.length) : (l.map fun z => Value.int .u32 z).getD i undef = .int .u32 (l.getD i 0) := by
  rw [List.getD_eq_getElem?_getD, List.getD_eq_getElem?_getD, List.getElem?_map, List.getElem?_eq_getElem h]; rfl
theorem mem_cells {W : World} {base : Nat} {v : Value} {l : List Int} {n : Nat} (h : W.ownsRow base 42 1 v l.length (l.map fun z => .int .u32 z)) (hn : l.length = n) (hp : 0 < n) : ∃ b o c, v = .slice (some ⟨b, o, none⟩) n c ∧ b < W.heap.size ∧ ∀ i, i < n → W.cell? ⟨b, o + i, none⟩ = some (.int .u32 (l.getD i 0)) := by
  obtain ⟨A, c, rfl, _, hs⟩ := own_sl h
  obtain ⟨b, o, rfl, hl, hx⟩ := hs (by omega)
  exact ⟨b, o, c, by rw [hn], hl, fun i hi => (hx i (by omega)).trans (congrArg some (mem_val (by omega)))⟩
end Go.Proofs.YtmhfpjnkjlhbpaaGreatDoor
namespace Go.Proofs.YtmhfpjnkjlhbpaaGreatDoor
open Go.ChangeShapes Go.WideShapes Go.ChangeAt Go.RowKit
set_option linter.unusedVariables false
set_option maxRecDepth 100000

theorem of_any (b : Int) (h0 : 0 ≤ b) (h1 : b ≤ 255) (w : World) :
    Calls Tryz.prog 46 #[.int .u8 b] w fun e w' => e = .returned (.agg #[.int .i64 (b / 8 % 3), .int .i64 (b % 8)]) ∧ Below w.heap.size w w' := by
  go_enter Tryz.func46, Tryz.ntmps46
  go_wp2
  exact bodyPost_ret (v := .agg #[.int .i64 (b / 8 % 3), .int .i64 (b % 8)]) (by simp [results, Tryz.results46, go_sem]) rfl ⟨rfl, (Below.refl _ _).alloc (Nat.le_refl _) _⟩

end Go.Proofs.YtmhfpjnkjlhbpaaGreatDoor
namespace Go.Proofs.YtmhfpjnkjlhbpaaGreatDoor
open Go.RowKit
set_option linter.unusedVariables false
set_option maxRecDepth 100000

theorem pick_info : (Tryz.prog.info? 78).map (fun i => (i.zero, i.size, i.bytes)) = some (some (.agg #[.int .i64 0, .int .i64 0]), 2, 16) := by kernel_rfl

theorem run_make_rowN {P : Program} (t e : TypeId) (i : TypeInfo) (z : Value) (ht : P.underlying t = some (.slice e)) (hi : P.info? e = some i) (hz : i.zero = some z)
    (kl kc : IntKind) (n c : Nat) (hnc : n ≤ c) (hbytes : i.bytes * c ≤ 281474976710656) (h63 : c ≤ 9223372036854775807) (w : World) :
    (Instr.makeSlice t (.int kl (n : Int)) (.int kc (c : Int))).run P w = .ok (.slice (some ⟨w.heap.size, 0, none⟩) n c) (w.alloc (.cells (madeCells z.cells (c * i.size)) e)) := by
  have hb : (i.bytes : Int) * (c : Int) ≤ 281474976710656 := by
    have h : ((i.bytes * c : Nat) : Int) ≤ 281474976710656 := by omega
    rwa [Int.natCast_mul] at h
  have hr := run_make (P := P) w t e i z ht hi hz kl kc n c (by omega) (by omega) hb (by omega)
  simp only [Int.toNat_natCast] at hr
  exact hr

theorem run_make_picks (n : Nat) (hn : n ≤ 1000000) : ∀ w : World, (Instr.makeSlice 37 (.int .i64 (n : Int)) (.int .i64 (n : Int))).run Tryz.prog w =
    .ok (.slice (some ⟨w.heap.size, 0, none⟩) n n) (w.alloc (.cells (madeCells #[.int .i64 0, .int .i64 0] (n * 2)) 78)) := fun w => by
  obtain ⟨i, hi, hz, hs, hb⟩ := info_parts pick_info
  have := run_make_rowN (P := Tryz.prog) 37 78 i _ Tryz.underlying37 hi hz .i64 .i64 n n (Nat.le_refl _) (by rw [hb]; omega) (by omega) w
  rw [hs] at this
  exact this

set_option maxHeartbeats 400000 in
theorem pickRead_any (A : Option Addr) (len cap : Nat) (Z : Nat → Int) (w : World) (hl : len ≤ 100000) (hsl : Sl w A len (fun i => .int .u8 (Z i))) (hz : ∀ i, i < len → 0 ≤ Z i ∧ Z i ≤ 255) :
    Calls Tryz.prog 18 #[.slice A len cap] w fun e w' => ∃ cs : Array Value, e = .returned (.slice (some ⟨w.heap.size, 0, none⟩) len len) ∧ Blk w' w.heap.size 78 cs ∧ cs.size = len * 2 ∧
      (∀ i, i < len → cs[i * 2]? = some (.int .i64 (Z i / 8 % 3)) ∧ cs[i * 2 + 1]? = some (.int .i64 (Z i % 8))) ∧ Below w.heap.size w w' := by
  have hmk := run_make_picks len (by omega)
  go_enter Tryz.func18, Tryz.ntmps18
  go_wp2
  clear hmk
  go_loopw [11] (fun v wr => ∃ k : Nat, k ≤ len ∧ v = .int .i64 k ∧ ∃ cs : Array Value, Blk wr w.heap.size 78 cs ∧ cs.size = len * 2 ∧ (∀ i, i < k → cs[i * 2]? = some (.int .i64 (Z i / 8 % 3)) ∧ cs[i * 2 + 1]? = some (.int .i64 (Z i % 8))) ∧ Below w.heap.size w wr)
    (fun v _ => len - (intOf v).toNat)
  case atStart =>
    exact ⟨0, Nat.zero_le _, rfl, _, Blk.new _ _ _, by simp [size_madeCells], fun i hi => absurd hi (by omega), (Below.refl _ _).alloc (Nat.le_refl _) _⟩
  case round =>
    obtain ⟨k, hk, rfl, cs, hblk, hcs, hdone, hB⟩ := hrel
    by_cases hlt : k < len
    · obtain ⟨b, off, rfl, hbW, hcW⟩ := (hsl.below (Nat.le_refl _) hB) (by omega)
      have hc0 := hcW k hlt
      have hz0 := hz k hlt
      have hblk1 : ∀ {w1 : World}, Below wr.heap.size wr w1 → Blk w1 w.heap.size 78 cs := fun hb => hblk.below hb hblk.lt
      have hlg := hblk.lt
      have hx0 : ∃ v0, cs[k * 2]? = some v0 := ⟨_, Array.getElem?_eq_getElem (by omega)⟩
      have hx1 : ∃ v1, cs[k * 2 + 1]? = some v1 := ⟨_, Array.getElem?_eq_getElem (by omega)⟩
      obtain ⟨v0, hv0⟩ := hx0
      obtain ⟨v1, hv1⟩ := hx1
      have HS := Lib.hid hcs
      clear hcs hcW hsl
      go_wp2_with (first | (go_at_call 46; refine (of_any _ hz0.1 hz0.2 _).mono ?_; rintro e w1 ⟨rfl, hb1⟩; have q := hblk1 hb1; have q0 := (q.cell (k * 2)).trans hv0; have q1 := (q.cell (k * 2 + 1)).trans hv1; have f0 := q.frozen (k * 2); have f1 := q.frozen (k * 2 + 1)))
      go_roundw
      case rel =>
        refine ⟨k + 1, by omega, by go_num, _, (q.set_ (k * 2) _).set_ (k * 2 + 1) _, by simp [HS.out], fun i hi => ?_, ?_⟩
        · by_cases hik : i = k
          · subst hik
            have := HS.out
            constructor
            · rw [Array.getElem?_setIfInBounds_ne (by omega), Array.getElem?_setIfInBounds_self_of_lt (by omega)]
            · rw [Array.getElem?_setIfInBounds_self_of_lt (by simp; omega)]
          · have := hdone i (by omega)
            rw [Array.getElem?_setIfInBounds_ne (by omega), Array.getElem?_setIfInBounds_ne (by omega), Array.getElem?_setIfInBounds_ne (by omega), Array.getElem?_setIfInBounds_ne (by omega)]
            exact this
        · exact ((step_below hB hb1).setCell (Nat.le_refl _) _).setCell (Nat.le_refl _) _
      case measure => simp [intOf]; omega
    · obtain rfl : k = len := by omega
      go_wp2
      go_ret
      exact ⟨cs, rfl, hblk, hcs, hdone, hB⟩
end Go.Proofs.YtmhfpjnkjlhbpaaGreatDoor
