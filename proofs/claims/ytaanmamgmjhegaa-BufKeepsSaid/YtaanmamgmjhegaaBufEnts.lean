/- Entries, and the law's 'same'. -/
import Derived.Test.YtaanmamgmjhegaaBufOrder
import Derived.Test.YtaanmamgmjhegaaOwn
namespace Go.Proofs.Ytaanmamgmjhegaa
open Go.ChangeShapes Go.WideShapes Go.ChangeAt Go.RowKit Go.Deep
set_option linter.unusedVariables false
set_option linter.unusedSimpArgs false

theorem entry_info : (Try.prog.info? 26).map (fun i => (i.zero, i.size, i.bytes)) = some (some (.agg #[.int .i64 0, .int .u32 0]), 2, 16) := by kernel_rfl
theorem take_entV (l : List Ent) (k : Nat) (h : k < l.length) : (l.take (k + 1)).flatMap entV = (l.take k).flatMap entV ++ entV (l.getD k (0, 0)) := by
  rw [List.take_succ_eq_append_getElem h, List.flatMap_append]
  simp [List.getD_eq_getElem?_getD, List.getElem?_eq_getElem h]

set_option maxHeartbeats 1000000 in
theorem entries_any (cs : Array Value) (l : List Ent) (room : Int) (h : Buf cs l room) (w : World) :
    Calls Try.prog 20 #[.agg cs] w fun e w' => ∃ v, e = .returned v ∧ w'.ownsRow (w.heap.size + 1) 26 2 v l.length (l.flatMap entV) ∧ Below w.heap.size w w' := by
  obtain ⟨i0, hi, hz0, hz1, hz2⟩ := info_parts entry_info
  have hB := (Below.refl w.heap.size w).alloc (Nat.le_refl _) (Obj.cells cs 29)
  have hq := Blk.new w 29 cs
  obtain ⟨R, first, hfi, hc, hl⟩ := h.ex
  have hle := h.le
  have hn : cs[33]? = some (.int .i64 l.length) := hc.n
  have HL := Lib.hid hl
  have hinf := h.info
  clear hl
  go_enter Try.func20, Try.ntmps20
  go_wp2_with fail
  clear hn
  have hw0s : w.heap.size < (w.alloc (Obj.cells cs 29)).heap.size := hq.lt
  obtain ⟨w0, hw0⟩ : ∃ w0, w.alloc (Obj.cells cs 29) = w0 := ⟨_, rfl⟩
  rw [hw0] at hB hq hw0s ⊢
  clear hw0
  go_loopw [3, 7] (fun s i wr => ∃ k : Nat, k ≤ l.length ∧ i = .int .i64 k ∧ wr.ownsRow (w.heap.size + 1) 26 2 s k ((l.take k).flatMap entV) ∧ Blk wr w.heap.size 29 cs ∧ Below w.heap.size w wr) (fun _ i _ => l.length - (intOf i).toNat)
  case atStart => exact ⟨0, Nat.zero_le _, rfl, ⟨rfl, .inl ⟨rfl, rfl⟩⟩, hq, hB⟩
  case round =>
    clear hq hB
    obtain ⟨k, hk, rfl, hown, hqr, hBr⟩ := hrel
    by_cases hkl : k < l.length
    · have hk0 : (k : Int) < (l.length : Int) := by omega
      have hk1 : 0 ≤ (k : Int) := by omega
      have cA := at_any cs R first _ room hc hfi (k : Int) (by omega) (by omega)
      rw [Int.toNat_natCast] at cA
      have hR := HL.out k hkl
      have hat : (first + k) % 16 < 16 := Nat.mod_lt _ (by decide)
      generalize (first + k) % 16 = q at cA hR hat
      have a0 := hc.addr q hat
      have a1 := hc.val q hat
      have hq16 : (q : Int) < 16 := by omega
      have ht := take_entV l k hkl
      rw [hR] at a0 a1
      generalize l.getD k (0, 0) = z at a0 a1 ht
      have HT := Lib.hid ht
      clear ht hR
      go_wp2_with (refine wpList_load_row rfl 29 (.tmp 1) rfl _ rfl 29 cs (0, 0) _ hqr Try.underlying29 rfl hinf ?_)
      refine (cA _).mono ?_
      rintro e w2 ⟨rfl, hb2⟩
      have hB2 := step_below hBr hb2
      have hq2 := hqr.below hb2 hqr.lt
      have hown2 := own_below hown (Nat.le_refl _) hb2
      have e0 := (hq2.cell (q * 2)).trans a0
      have e1 := (hq2.cell (q * 2 + 1)).trans a1
      have hsz : w.heap.size < w2.heap.size := hq2.lt
      clear hqr cA hb2 hBr hown a0 a1
      have hown3 := hown2.alloc (.cells #[.int .i64 z.1, .int .u32 z.2] 26)
      have hsl := sl_new w2 26 (entV z)
      have hq3 := hq2.alloc (.cells #[.int .i64 z.1, .int .u32 z.2] 26)
      have hB3 := hB2.alloc hB2.size (.cells #[.int .i64 z.1, .int .u32 z.2] 26)
      go_wp2_with (at_builtin; refine wpList_append_sl _ rfl (.tmp 10) (.tmp 17) 22 rfl (w.heap.size + 1) 26 i0 _ 2 16 Try.underlying22 hi hz0 hz1 hz2 rfl (by omega) _ k _ rfl hown3 _ 1 _ (fun i => (entV z).getD i undef) rfl hsl (fun i hi => by rcases (by omega : i = 0 ∨ i = 1) with rfl | rfl <;> rfl) (by unfold maxLen; omega) (by omega) (by simp; omega) ?_; intro v' w4 hown4 hg4 _; have hq4 := hq3.grow_own hown3 hg4 (by omega); have hB4 := below_own hB3 hown3 hg4 (by omega) (Nat.le_refl _); clear hq3 hB3 hown3 hown2 hB2 hq2 hg4 e0 e1 hsl)
      go_roundw
      case rel =>
        refine ⟨k + 1, by omega, by go_num, ?_, hq4, hB4⟩
        rw [HT.out]
        exact hown4
      case measure => simp [intOf]; omega
    · obtain rfl : k = l.length := by omega
      have hk0 : ¬ (l.length : Int) < (l.length : Int) := by omega
      rw [List.take_length] at hown
      go_wp2_with fail
      go_ret
      exact ⟨_, rfl, hown, hBr⟩
end Go.Proofs.Ytaanmamgmjhegaa
