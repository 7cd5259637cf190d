/- The document's Wake of layer 6, for seats without law06. -/
import Derived.Test.YtjmnogpnjombgaaDoorKernC
namespace Go.Proofs.YtjmnogpnjombgaaDoor
open Go.ChangeShapes Go.WideShapes Go.ChangeAt Go.RowKit Go.Deep
set_option linter.unusedVariables false
set_option maxRecDepth 100000
set_option linter.unusedSimpArgs false

theorem rslp_info : (Tryd.prog.info? 98).map (fun i => (i.zero, i.size, i.bytes)) = some (some (.agg #[.int .i64 0, .int .i64 0]), 2, 16) := by kernel_rfl
theorem slp_one (x : Slp) : ∀ k, k < 1 * 2 → ((slp x).getD k undef).oneCell' = true := fun k hk => by
  rcases (by omega : k = 0 ∨ k = 1) with rfl | rfl <;> rfl
theorem flat_one (l : List Slp) : ∀ k, k < l.length * 2 → ((l.flatMap slp).getD k undef).oneCell' = true := fun k hk => by
  have := flat_get slp 2 (fun _ => rfl) (0, 0) l (k / 2) (by omega) (k % 2) (by omega)
  rw [show k / 2 * 2 + k % 2 = k from by omega] at this
  rw [List.getD_eq_getElem?_getD, this]
  rcases (by omega : k % 2 = 0 ∨ k % 2 = 1) with e | e <;> rw [e] <;> rfl

/-- What the document's Wake answers: new rows. -/
def RefW (l : List Slp) (addr : Int) (n : Nat) (w : World) (e : Ending) (w' : World) : Prop :=
  ∃ lv ov, e = .returned (.tuple #[lv, ov]) ∧ w'.ownsRow w.heap.size 98 2 lv (wk addr n l).1.length ((wk addr n l).1.flatMap slp) ∧ w'.ownsRow w.heap.size 3 1 ov (wk addr n l).2.length ((wk addr n l).2.map (Value.int .i64)) ∧ Below w.heap.size w w'
set_option maxRecDepth 100000 in
set_option maxHeartbeats 2000000 in
theorem refWake_any (A : Option Addr) (cap : Nat) (l : List Slp) (hm : l.length ≤ 10000) (addr : Int) (n : Nat) (hn : n ≤ 4294967295) (w : World) (hs : SlE w A l.length 2 (fun i => slp (l.getD i (0, 0)))) :
    Calls Tryd.prog 67 #[.slice A l.length cap, .int .i64 addr, .int .u32 (n : Int)] w (RefW l addr n w) := by
  have HS := Lib.hid hs
  obtain ⟨len, hlen⟩ : ∃ len, l.length = len := ⟨_, rfl⟩
  have HL := Lib.hid hlen
  rw [hlen] at hm ⊢
  obtain ⟨i0, hi, hy0, hy1, hy2⟩ := info_parts int_info
  obtain ⟨r0, ri, rz0, rz1, rz2⟩ := info_parts rslp_info
  clear hs hlen
  go_enter Tryd.func67, Tryd.ntmps67
  go_wp2
  go_loopw [2, 8, 9, 10] (fun nv lv ov i wr => ∃ (k a c : Nat) (S : List Slp × List Int), k ≤ len ∧ i = .int .i64 k ∧ c ≤ n ∧ nv = .int .u32 ((n - c : Nat) : Int) ∧ wk addr n (l.take k) = S ∧ S.2.length = c ∧ a + c = k ∧
    wr.ownsRow w.heap.size 98 2 lv a (S.1.flatMap slp) ∧ wr.ownsRow w.heap.size 3 1 ov c (S.2.map (Value.int .i64)) ∧ Below w.heap.size w wr) (fun _ _ _ i _ => len - (intOf i).toNat)
  case atStart => exact ⟨0, 0, 0, ([], []), Nat.zero_le _, rfl, Nat.zero_le _, rfl, rfl, rfl, rfl, ⟨rfl, .inl ⟨rfl, rfl⟩⟩, ⟨rfl, .inl ⟨rfl, rfl⟩⟩, Below.refl _ _⟩
  case round =>
    obtain ⟨k, a, c, ⟨S, T⟩, hk, rfl, hcn, rfl, hw, hT, hac, hl, ho, hB⟩ := hrel
    dsimp only at hw hT hl ho
    obtain ⟨lA, lc, rfl, _, _⟩ := own_sl hl
    obtain ⟨oA, oc, rfl, _, _⟩ := own_sl ho
    obtain ⟨d, hd⟩ : ∃ d, n - c = d := ⟨_, rfl⟩
    rw [hd]
    have HW := Lib.hid (And.intro hw (And.intro hT hd))
    clear hw hT hd
    have hdn : d ≤ 4294967295 := by have := HW.out.2.2; omega
    by_cases hkl : k < len
    · have hk1 : (k : Int) < (len : Int) := by omega
      have hk0 : (0 : Int) ≤ (k : Int) := by omega
      obtain ⟨b, off, rfl, hb, hcc⟩ := HS.out (by rw [HL.out]; omega)
      have k0 := keepAt hB hb (hcc k (by rw [HL.out]; exact hkl) 0 (.int .i64 (l.getD k (0, 0)).1) rfl)
      have k1 := keepAt hB hb (hcc k (by rw [HL.out]; exact hkl) 1 (.int .i64 (l.getD k (0, 0)).2) rfl)
      rw [Nat.add_zero] at k0
      have hsn : wk addr n (l.take (k + 1)) = wstep addr n (S, T) (l.getD k (0, 0)) := by rw [take_snoc l k (0, 0) (by rw [HL.out]; exact hkl), wk_snoc, HW.out.1]
      obtain ⟨⟨x, y⟩, hx⟩ : ∃ x, l.getD k (0, 0) = x := ⟨_, rfl⟩
      rw [hx] at k0 k1 hsn
      dsimp only at k0 k1
      have HX := Lib.hid hsn
      have hbw : b < wr.heap.size := Nat.lt_of_lt_of_le hb hB.size
      clear hcc hx hsn
      by_cases hsel : y = addr ∧ 0 < d
      · obtain ⟨rfl, hd0⟩ := hsel
        have hd1 : (0 : Int) < (d : Int) := by omega
        have hyy : (y == y) = true := by simp
        have hal := (Below.refl wr.heap.size wr).alloc (Nat.le_refl _) (.cells #[.int .i64 x] 3)
        have ho4 := own_below ho (Nat.le_refl _) hal
        have hl4 := own_below hl (Nat.le_refl _) hal
        have hB4 := step_below hB hal
        have hz4 := hB4.size
        have hsl4 := sl_new wr 3 [.int .i64 x]
        have hone : ∀ k, k < 1 * 1 → ([Value.int .i64 x].getD k undef).oneCell' = true := fun k hk => by
          obtain rfl : k = 0 := by omega
          rfl
        have HZ := Lib.hid (And.intro hl4 hB4)
        clear ho hl hB hal hl4 hB4
        go_wp2_with (at_builtin; refine wpList_append_sl _ rfl (.tmp 28) (.tmp 34) 109 rfl w.heap.size 3 i0 _ 1 8 Tryd.underlying109 hi hy0 hy1 hy2 rfl (by omega) _ c _ rfl ho4 _ 1 _ (fun i => [Value.int .i64 x].getD i undef) rfl hsl4 hone (by unfold maxLen; omega) (by omega) hz4 ?_; intro v' w5 hown5 hg5 _; rw [range_getD [Value.int .i64 x] (1 * 1) rfl] at hown5; have hl5 := own_apart HZ.out.1 ho4 (by decide) hg5; have hB5 := below_own HZ.out.2 ho4 hg5 (Nat.le_refl _) (Nat.le_refl _); have H5 := Lib.hid (And.intro hl5 (And.intro hown5 hB5)); clear hl5 hown5 hB5 hg5 ho4 hsl4 hone hz4)
        go_roundw
        case rel =>
          have hsel : (x, y).2 = y ∧ T.length < n := ⟨rfl, by have h1 := HW.out.2.1; have h2 := HW.out.2.2; omega⟩
          refine ⟨k + 1, a, c + 1, (S, T ++ [x]), by omega, by go_num, by have := HW.out.2.2; omega, ?_, ?_, by rw [List.length_append, HW.out.2.1]; rfl, by omega, H5.out.1, ?_, H5.out.2.2⟩
          · have h2 := HW.out.2.2
            rw [show ((n - (c + 1) : Nat) : Int) = (d : Int) - 1 from by omega]
          · rw [HX.out]; exact if_pos hsel
          · rw [List.map_append]; exact H5.out.2.1
        case measure => simp [intOf]; omega
      · have hns : ¬ ((x, y).2 = addr ∧ T.length < n) := fun h => hsel ⟨h.1, by have h1 := HW.out.2.1; have h2 := HW.out.2.2; have h3 := h.2; omega⟩
        have HNS := Lib.hid hns
        have hal := (Below.refl wr.heap.size wr).alloc (Nat.le_refl _) (.cells #[.int .i64 x, .int .i64 y] 98)
        have ho4 := own_below ho (Nat.le_refl _) hal
        have hl4 := own_below hl (Nat.le_refl _) hal
        have hB4 := step_below hB hal
        have hz4 := hB4.size
        have hsl4 := sl_new wr 98 [.int .i64 x, .int .i64 y]
        have hone := slp_one (x, y)
        have HZ := Lib.hid (And.intro ho4 hB4)
        clear ho hl hB hal ho4 hB4 hns
        rcases Decidable.em (y = addr) with hya | hya
        case' inl =>
          have hyb : (y == addr) = true := by simpa using hya
          have hd1 : ¬ (0 : Int) < (d : Int) := fun h => hsel ⟨hya, by omega⟩
        case' inr =>
          have hyb : (y == addr) = false := by simpa using hya
        all_goals
          clear hsel hya
          go_wp2_with (at_builtin; refine wpList_append_sl _ rfl (.tmp 38) (.tmp 43) 37 rfl w.heap.size 98 r0 _ 2 16 Tryd.underlying37 ri rz0 rz1 rz2 rfl (by omega) _ a _ rfl hl4 _ 1 _ (fun i => [Value.int .i64 x, Value.int .i64 y].getD i undef) rfl hsl4 hone (by unfold maxLen; omega) (by omega) hz4 ?_; intro v' w5 hown5 hg5 _; rw [range_getD [Value.int .i64 x, Value.int .i64 y] (1 * 2) rfl] at hown5; have ho5 := own_apart HZ.out.1 hl4 (by decide) hg5; have hB5 := below_own HZ.out.2 hl4 hg5 (Nat.le_refl _) (Nat.le_refl _); have H5 := Lib.hid (And.intro ho5 (And.intro hown5 hB5)); clear ho5 hown5 hB5 hg5 hl4 hsl4 hone hz4)
          go_roundw
          case rel =>
            refine ⟨k + 1, a + 1, c, (S ++ [(x, y)], T), by omega, by go_num, by omega, by rw [HW.out.2.2], ?_, HW.out.2.1, by omega, ?_, H5.out.1, H5.out.2.2⟩
            · rw [HX.out]; exact if_neg HNS.out
            · rw [List.flatMap_append]; exact H5.out.2.1
          case measure => simp [intOf]; omega
    · obtain rfl : len = k := by omega
      have hk1 : ¬ (len : Int) < (len : Int) := by omega
      have hw : wk addr n l = (S, T) := by
        have := HW.out.1
        rwa [List.take_of_length_le (by rw [HL.out]; exact Nat.le_refl _)] at this
      have hal : a = S.length := by
        have := wk_len addr n l
        rw [hw, HL.out] at this
        have h2 := HW.out.2.1
        dsimp only at this
        omega
      have HF := Lib.hid (And.intro hw (And.intro hal (And.intro hl (And.intro ho hB))))
      clear hw hal hl ho hB
      go_wp2
      go_ret2
      refine ⟨_, _, rfl, ?_, ?_, HF.out.2.2.2.2⟩
      · rw [HF.out.1, ← HF.out.2.1]; exact HF.out.2.2.1
      · rw [HF.out.1, show (S, T).2.length = c from HW.out.2.1]; exact HF.out.2.2.2.1
end Go.Proofs.YtjmnogpnjombgaaDoor
