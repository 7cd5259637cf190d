/- The document's Values, and trace.Values. -/
import Derived.Test.YtidedjjpaoagjaaTraceVals
namespace Go.Proofs.Ytidedjjpaoagjaa
open Go.ChangeShapes Go.WideShapes Go.ChangeAt Go.RowKit Go.Deep
set_option linter.unusedVariables false
set_option linter.unusedSimpArgs false

theorem cell_one_new1 (W : World) (o : Obj) (v : Value) (t : TypeId) : ∀ j u, [v][j]? = some u → ((W.alloc o).alloc (.cells [v].toArray t)).cell? ((⟨W.heap.size + 1, 0, none⟩ : Addr).add j) = some u := by
  have := cell_one_new (W.alloc o) v t
  rwa [World.size_alloc] at this

set_option maxRecDepth 100000 in
set_option maxHeartbeats 4000000 in
theorem refValues_any (A : Option Addr) (len cap : Nat) (E : Nat → Ev) (a : Int) (hl : len ≤ 100000) (w : World) (hs : SlE w A len 8 (fun i => (E i).cells)) :
    Calls Try.prog 18 #[.slice A len cap, .int .i64 a] w (SelEnd (valF a) E len w) := by
  obtain ⟨i0, hi, hz0, hz1, hz2⟩ := info_parts u32_info
  have HS := Lib.hid hs
  clear hs
  go_enter Try.func18, Try.ntmps18
  go_wp2
  go_loopw [5, 6] (fun v i wr => ∃ k : Nat, k ≤ len ∧ i = .int .i64 (k : Int) ∧ SelI (valF a) E w wr k v) (fun _ i _ => len - (intOf i).toNat)
  case atStart => exact ⟨0, Nat.zero_le _, rfl, World.ownsRow_nil _ _ _ _, Below.refl _ _⟩
  case round =>
    obtain ⟨k, hk, rfl, hI⟩ := hrel
    by_cases hlt : k < len
    · obtain ⟨b, off, rfl, hc⟩ := hI.cells HS.out hlt
      have hlt' : (k : Int) < (len : Int) := by omega
      have hk0 : (0 : Int) ≤ (k : Int) := by omega
      obtain ⟨x, hx⟩ : ∃ x, E k = x := ⟨_, rfl⟩
      rw [hx] at hc
      obtain ⟨kd, wh, pc, ad, va, ol, kk, ok, v0, v1, k0, k1⟩ := x
      have c0 := hc 0 _ rfl
      have c3 := hc 3 _ rfl
      have c4 := hc 4 _ rfl
      have c7 := hc 7 _ rfl
      rw [Nat.add_zero] at c0
      have hsz := hI.below.size
      have hsl := sel_len (valF a) E k
      have HX := Lib.hid (And.intro hx hI)
      have hrow := hI.row
      clear hx hI
      clear hc
      obtain ⟨n0, hn0⟩ : ∃ n0, (sel (valF a) E k).length = n0 := ⟨_, rfl⟩
      rw [hn0] at hrow hsl
      have HN := Lib.hid hn0
      clear hn0
      rcases q0 : (ad == a) with _ | _
      · have hI5 := HX.out.2.miss (by rw [HX.out.1]; exact (by unfold valF; dsimp only; rw [q0]; rfl))
        have HI5 := Lib.hid hI5
        clear hI5
        go_wp2
        go_roundw
        case measure => simp [intOf]; omega
        case rel => exact ⟨k + 1, by omega, by go_num, HI5.out⟩
      · rcases q3 : (kd == 3) with _ | _
        · rcases q4 : (kd == 4) with _ | _
          · have hI5 := HX.out.2.miss (by rw [HX.out.1]; exact (by unfold valF; dsimp only; rw [q0, q3, q4]; rfl))
            have HI5 := Lib.hid hI5
            clear hI5
            go_wp2
            go_roundw
            case measure => simp [intOf]; omega
            case rel => exact ⟨k + 1, by omega, by go_num, HI5.out⟩
          · cases ok
            · have hI5 := HX.out.2.miss (by rw [HX.out.1]; exact (by unfold valF; dsimp only; rw [q0, q3, q4]; rfl))
              have HI5 := Lib.hid hI5
              clear hI5
              go_wp2
              go_roundw
              case measure => simp [intOf]; omega
              case rel => exact ⟨k + 1, by omega, by go_num, HI5.out⟩
            · go_wp2_with (at_builtin; go_must (refine wpList_append_own_at _ rfl (.tmp 43) (.tmp 49) 43 rfl w.heap.size 29 i0 _ 1 4 Try.underlying43 hi hz0 hz1 hz2 rfl (by decide) _ _ _ rfl (hrow.alloc _) ⟨wr.heap.size, 0, none⟩ 1 1 [.int .u32 va] rfl rfl (cell_one_new _ _ _) (by simp [Value.oneCell']) (by unfold maxLen; omega) (by omega) (Nat.le_trans hsz (by simp)) ?_; intro v' w5 hown5 hg5 _ hnew))
              obtain ⟨hx, hI⟩ := HX.out
              rw [HN.out.symm] at hown5
              have hI5 := hI.hit (by rw [hx]; exact (by unfold valF; dsimp only; rw [q0, q3, q4]; rfl)) hg5 (by rw [hx]; exact hown5)
              go_roundw
              case measure => simp [intOf]; omega
              case rel => exact ⟨k + 1, by omega, by go_num, hI5⟩
        · go_wp2_with (at_builtin; go_must (refine wpList_append_own_at _ rfl (.tmp 43) (.tmp 49) 43 rfl w.heap.size 29 i0 _ 1 4 Try.underlying43 hi hz0 hz1 hz2 rfl (by decide) _ _ _ rfl (hrow.alloc _) ⟨wr.heap.size, 0, none⟩ 1 1 [.int .u32 va] rfl rfl (cell_one_new _ _ _) (by simp [Value.oneCell']) (by unfold maxLen; omega) (by omega) (Nat.le_trans hsz (by simp)) ?_; intro v' w5 hown5 hg5 _ hnew))
          obtain ⟨hx, hI⟩ := HX.out
          rw [HN.out.symm] at hown5
          have hI5 := hI.hit (by rw [hx]; exact (by unfold valF; dsimp only; rw [q0, q3]; rfl)) hg5 (by rw [hx]; exact hown5)
          go_roundw
          case measure => simp [intOf]; omega
          case rel => exact ⟨k + 1, by omega, by go_num, hI5⟩
    · obtain rfl : k = len := by omega
      go_wp2
      go_ret
      exact ⟨_, rfl, hI.row, hI.below⟩

set_option maxRecDepth 100000 in
set_option maxHeartbeats 4000000 in
theorem values_any (A : Option Addr) (len cap : Nat) (E : Nat → Ev) (a : Int) (hl : len ≤ 100000) (w : World) (hs : SlE w A len 8 (fun i => (E i).cells)) :
    Calls Try.prog 17 #[.slice A len cap, .int .i64 a] w (SelEnd (valF a) E len w) := by
  obtain ⟨i0, hi, hz0, hz1, hz2⟩ := info_parts u32_info
  have HS := Lib.hid hs
  clear hs
  go_enter Try.func17, Try.ntmps17
  go_wp2
  go_loopw [5, 10] (fun v i wr => ∃ k : Nat, k ≤ len ∧ i = .int .i64 (k : Int) ∧ SelI (valF a) E w wr k v) (fun _ i _ => len - (intOf i).toNat)
  case atStart => exact ⟨0, Nat.zero_le _, rfl, World.ownsRow_nil _ _ _ _, Below.refl _ _⟩
  case round =>
    obtain ⟨k, hk, rfl, hI⟩ := hrel
    by_cases hlt : k < len
    · obtain ⟨b, off, rfl, hc⟩ := hI.cells HS.out hlt
      have hlt' : (k : Int) < (len : Int) := by omega
      have hk0 : (0 : Int) ≤ (k : Int) := by omega
      obtain ⟨x, hx⟩ : ∃ x, E k = x := ⟨_, rfl⟩
      rw [hx] at hc
      obtain ⟨kd, wh, pc, ad, va, ol, kk, ok, v0, v1, k0, k1⟩ := x
      have c0 := hc 0 _ rfl
      have c1 := hc 1 _ rfl
      have c2 := hc 2 _ rfl
      have c3 := hc 3 _ rfl
      have c4 := hc 4 _ rfl
      have c5 := hc 5 _ rfl
      have c6 := hc 6 _ rfl
      have c7 := hc 7 _ rfl
      rw [Nat.add_zero] at c0
      have hsz := hI.below.size
      have hsl := sel_len (valF a) E k
      have hIa := hI.alloc (.cells #[.int .i64 kd, .int .i64 wh, .int .i64 pc, .int .i64 ad, .int .u32 va, .int .u32 ol, .int .u32 kk, .bool ok] 31)
      have HX := Lib.hid (And.intro hx hIa)
      have hrow := hIa.row
      clear hx hI hIa
      clear hc
      obtain ⟨n0, hn0⟩ : ∃ n0, (sel (valF a) E k).length = n0 := ⟨_, rfl⟩
      rw [hn0] at hrow hsl
      have HN := Lib.hid hn0
      clear hn0
      rcases q0 : (ad == a) with _ | _
      · have hI5 := HX.out.2.miss (by rw [HX.out.1]; exact (by unfold valF; dsimp only; rw [q0]; rfl))
        have HI5 := Lib.hid hI5
        clear hI5
        go_wp2
        go_roundw
        case measure => simp [intOf]; omega
        case rel => exact ⟨k + 1, by omega, by go_num, HI5.out⟩
      · rcases q3 : (kd == 3) with _ | _
        · rcases q4 : (kd == 4) with _ | _
          · have hI5 := HX.out.2.miss (by rw [HX.out.1]; exact (by unfold valF; dsimp only; rw [q0, q3, q4]; rfl))
            have HI5 := Lib.hid hI5
            clear hI5
            go_wp2
            go_roundw
            case measure => simp [intOf]; omega
            case rel => exact ⟨k + 1, by omega, by go_num, HI5.out⟩
          · cases ok
            · have hI5 := HX.out.2.miss (by rw [HX.out.1]; exact (by unfold valF; dsimp only; rw [q0, q3, q4]; rfl))
              have HI5 := Lib.hid hI5
              clear hI5
              go_wp2
              go_roundw
              case measure => simp [intOf]; omega
              case rel => exact ⟨k + 1, by omega, by go_num, HI5.out⟩
            · go_wp2_with (at_builtin; go_must (refine wpList_append_own_at _ rfl (.tmp 32) (.tmp 35) 43 rfl w.heap.size 29 i0 _ 1 4 Try.underlying43 hi hz0 hz1 hz2 rfl (by decide) _ _ _ rfl (hrow.alloc _) ⟨wr.heap.size + 1, 0, none⟩ 1 1 [.int .u32 va] rfl rfl (cell_one_new1 _ _ _ _) (by simp [Value.oneCell']) (by unfold maxLen; omega) (by omega) (Nat.le_trans hsz (by simp; omega)) ?_; intro v' w5 hown5 hg5 _ hnew))
              obtain ⟨hx, hI⟩ := HX.out
              rw [HN.out.symm] at hown5
              have hI5 := hI.hit (by rw [hx]; exact (by unfold valF; dsimp only; rw [q0, q3, q4]; rfl)) hg5 (by rw [hx]; exact hown5)
              go_roundw
              case measure => simp [intOf]; omega
              case rel => exact ⟨k + 1, by omega, by go_num, hI5⟩
        · go_wp2_with (at_builtin; go_must (refine wpList_append_own_at _ rfl (.tmp 32) (.tmp 35) 43 rfl w.heap.size 29 i0 _ 1 4 Try.underlying43 hi hz0 hz1 hz2 rfl (by decide) _ _ _ rfl (hrow.alloc _) ⟨wr.heap.size + 1, 0, none⟩ 1 1 [.int .u32 va] rfl rfl (cell_one_new1 _ _ _ _) (by simp [Value.oneCell']) (by unfold maxLen; omega) (by omega) (Nat.le_trans hsz (by simp; omega)) ?_; intro v' w5 hown5 hg5 _ hnew))
          obtain ⟨hx, hI⟩ := HX.out
          rw [HN.out.symm] at hown5
          have hI5 := hI.hit (by rw [hx]; exact (by unfold valF; dsimp only; rw [q0, q3]; rfl)) hg5 (by rw [hx]; exact hown5)
          go_roundw
          case measure => simp [intOf]; omega
          case rel => exact ⟨k + 1, by omega, by go_num, hI5⟩
    · obtain rfl : k = len := by omega
      go_wp2
      go_ret
      exact ⟨_, rfl, hI.row, hI.below⟩
end Go.Proofs.Ytidedjjpaoagjaa
