/- KernOrder returns true for all inputs: the row. -/
import Derived.Test.YtaanmamgmjhegaaKernAwake
namespace Go.Proofs.Ytaanmamgmjhegaa
open Go.ChangeShapes Go.WideShapes Go.ChangeAt Go.RowKit Go.Deep
set_option linter.unusedVariables false
set_option linter.unusedSimpArgs false

theorem slpE_zero {l : List Slp} {who : Int} (h : slpE l who = 0) : 0 ≤ who ∧ who ≤ 7 ∧ ∀ x ∈ l, x.1 ≠ who := by
  unfold slpE at h
  by_cases hw : who < 0 ∨ 7 < who
  · rw [if_pos hw] at h; exact absurd h (by decide)
  · rw [if_neg hw] at h
    by_cases hf : fnd l who < l.length
    · rw [if_pos hf] at h; exact absurd h (by decide)
    · refine ⟨by omega, by omega, ?_⟩
      have h2 : fnd l who = l.length := by have := fnd_le l who; omega
      unfold fnd at h2
      rw [List.findIdx_eq_length] at h2
      intro x hx
      simpa using h2 x hx
theorem nodup_le : ∀ (L S : List Int), L.Nodup → (∀ x ∈ L, x ∈ S) → L.length ≤ S.length
  | [], S, _, _ => Nat.zero_le _
  | x :: L, S, hn, hs => by
    obtain ⟨h1, h2⟩ := List.nodup_cons.1 hn
    have hx := hs x (List.mem_cons_self ..)
    have := nodup_le L (S.erase x) h2 (fun y hy => (List.mem_erase_of_ne (fun e => h1 (by rw [← e]; exact hy))).2 (hs y (List.mem_cons_of_mem _ hy)))
    rw [List.length_erase_of_mem hx] at this
    have hp : 0 < S.length := List.length_pos_of_mem hx
    simp
    omega
/-- Sleepers, each once. -/
structure Sleepers (Q : List Slp) : Prop where
  who : ∀ x ∈ Q, 0 ≤ x.1 ∧ x.1 ≤ 7
  once : (Q.map Prod.fst).Nodup
theorem Sleepers.le {Q : List Slp} (h : Sleepers Q) : Q.length ≤ 8 := by
  have := nodup_le (Q.map Prod.fst) [0, 1, 2, 3, 4, 5, 6, 7] h.once (fun x hx => by
    obtain ⟨y, hy, rfl⟩ := List.mem_map.1 hx
    have := h.who y hy
    simp only [List.mem_cons, List.not_mem_nil, or_false]
    omega)
  simpa using this
theorem Sleepers.snoc {Q : List Slp} {who a : Int} (h : Sleepers Q) (he : slpE Q who = 0) : Sleepers (Q ++ [(who, a)]) := by
  obtain ⟨h1, h2, h3⟩ := slpE_zero he
  refine ⟨fun x hx => ?_, ?_⟩
  · rcases List.mem_append.1 hx with h' | h'
    · exact h.who x h'
    · rw [List.mem_singleton.1 h']; exact ⟨h1, h2⟩
  · rw [List.map_append]
    refine List.nodup_append.2 ⟨h.once, by simp, fun x hx y hy e => ?_⟩
    obtain ⟨z, hz, rfl⟩ := List.mem_map.1 hx
    simp at hy
    exact h3 z hz (e.trans hy)

theorem wk_all' (addr : Int) (n : Nat) : ∀ (Q : List Slp) (s : List Slp × List Int), (∀ x ∈ Q, x.2 = addr) → Q.foldl (wstep addr n) s = (s.1 ++ Q.drop (n - s.2.length), s.2 ++ (Q.take (n - s.2.length)).map Prod.fst)
  | [], s, _ => by simp
  | x :: Q, s, h => by
    rw [List.foldl_cons, wk_all' addr n Q _ (fun y hy => h y (List.mem_cons_of_mem _ hy))]
    have hx := h x (List.mem_cons_self ..)
    unfold wstep
    by_cases hl : s.2.length < n
    · rw [if_pos ⟨hx, hl⟩]
      obtain ⟨m, hm⟩ : ∃ m, n - s.2.length = m + 1 := ⟨n - s.2.length - 1, by omega⟩
      have hm2 : n - (s.2 ++ [x.1]).length = m := by rw [List.length_append]; show n - (s.2.length + 1) = m; omega
      rw [hm, hm2]
      simp
    · rw [if_neg (fun h => hl h.2)]
      have hm : n - s.2.length = 0 := by omega
      rw [hm]
      simp
theorem wk_all {addr : Int} {n : Nat} {Q : List Slp} (h : ∀ x ∈ Q, x.2 = addr) : wk addr n Q = (Q.drop n, (Q.take n).map Prod.fst) := by
  unfold wk
  rw [wk_all' addr n Q _ h]
  simp

theorem K.apart {w w' : World} {kb base b n : Nat} {v x : Value} {l : List Slp} {xs : List Value} (h : K w kb base v l) (hr : w.ownsRow b 3 1 x n xs) (hb : kb < b) (hg : w.grownBy w' x.ownBlock) : K w' kb base v l :=
  ⟨h.blk.grow_own hr hg hb, own_apart h.row hr (by decide) hg, h.lt⟩
theorem own_far {w w' : World} {base : Nat} {e : TypeId} {size n : Nat} {v : Value} {xs : List Value} {row : Option Nat} (h : w.ownsRow base e size v n xs) (hg : w.grownBy w' row) (hne : ∀ i, v.ownBlock = some i → row ≠ some i) : w'.ownsRow base e size v n xs := by
  obtain ⟨h1, h2⟩ := h
  refine ⟨h1, ?_⟩
  rcases h2 with h2 | ⟨g, cap, cur, rfl, hgb, hh, q⟩
  · exact .inl h2
  · have hlt : g < w.heap.size := by
      rcases Nat.lt_or_ge g w.heap.size with hlt | hge
      · exact hlt
      · rw [Array.getElem?_eq_none hge] at hh; cases hh
    exact .inr ⟨g, cap, cur, rfl, hgb, (hg.block g hlt (fun e => hne g rfl e.symm)).trans hh, q⟩
theorem own_lt {w : World} {base : Nat} {e : TypeId} {size n : Nat} {v : Value} {xs : List Value} (h : w.ownsRow base e size v n xs) : ∀ i, v.ownBlock = some i → i < w.heap.size := by
  intro i hi
  rcases h.2 with ⟨rfl, _⟩ | ⟨g, cap, cur, rfl, hgb, hh, q⟩
  · cases hi
  · obtain rfl := Option.some.inj hi
    rcases Nat.lt_or_ge g w.heap.size with hlt | hge
    · exact hlt
    · rw [Array.getElem?_eq_none hge] at hh; cases hh

theorem kernOrder_long (A : Option Addr) (len cap : Nat) (a b : Value) (w : World) (hl : 300 < len) (hm : len ≤ maxLen) :
    Calls Try.prog 7 #[.slice A len cap, a, b] w fun e w' => e = .returned (.bool true) ∧ Below w.heap.size w w' := by
  unfold maxLen at hm
  have hl' : (300 : Int) < (len : Int) := by omega
  go_enter Try.func7, Try.ntmps7
  go_wp2_with fail
  refine (kernAwake_any _).mono ?_
  rintro e w1 ⟨rfl, hb1⟩
  go_wp2_with fail
  refine (kernAwake_any _).mono ?_
  rintro e w2 ⟨rfl, hb2⟩
  go_wp2
  go_ret
  exact ⟨rfl, step_below hb1 hb2⟩

set_option maxRecDepth 100000 in
set_option maxHeartbeats 4000000 in
theorem kernOrder_true (A : Option Addr) (len cap : Nat) (Z : Nat → Int) (addr : Int) (n : Nat) (hn : n ≤ 4294967295) (hl : len ≤ 300) (w : World) (hsl : Sl w A len (fun i => .int .i64 (Z i))) :
    Calls Try.prog 7 #[.slice A len cap, .int .i64 addr, .int .u32 (n : Int)] w fun e w' => e = .returned (.bool true) ∧ Below w.heap.size w w' := by
  have hl' : ¬ (300 : Int) < (len : Int) := by omega
  obtain ⟨i0, hi, hy0, hy1, hy2⟩ := info_parts int_info
  have HS := Lib.hid hsl
  clear hsl
  go_enter Try.func7, Try.ntmps7
  go_wp2_with fail
  refine (kernAwake_any _).mono ?_
  rintro e w1 ⟨rfl, hb1⟩
  have hk := K.new w1
  have hB0 := hb1.alloc hb1.size (.cells #[.slice none 0 0] 58)
  have hsz : (w1.alloc (.cells #[.slice none 0 0] 58)).heap.size = w1.heap.size + 1 := by simp
  have hkb : w.heap.size ≤ w1.heap.size := hb1.size
  go_wp2_with fail
  obtain ⟨w2, hw2⟩ : ∃ w2, w1.alloc (.cells #[.slice none 0 0] 58) = w2 := ⟨_, rfl⟩
  rw [hw2] at hk hB0 hsz ⊢
  clear hw2 hb1
  obtain ⟨kb, hkbe⟩ : ∃ kb, w1.heap.size = kb := ⟨_, rfl⟩
  rw [hkbe] at hk hsz hkb ⊢
  clear hkbe
  have HI := Lib.hid (And.intro hk (And.intro hB0 hsz))
  clear hk hB0 hsz
  go_loopw [8, 9] (fun wv i wr => ∃ (k : Nat) (Q : List Slp) (v : Value), k ≤ len ∧ i = .int .i64 k ∧ Sleepers Q ∧ (∀ x ∈ Q, x.2 = addr) ∧ K wr kb (kb + 1) v Q ∧ wr.ownsRow (kb + 1) 3 1 wv Q.length ((Q.map Prod.fst).map (Value.int .i64)) ∧ kb + 1 ≤ wr.heap.size ∧ Below w.heap.size w wr) (fun _ i _ => len - (intOf i).toNat)
  case atStart => exact ⟨0, [], _, Nat.zero_le _, rfl, ⟨fun x hx => absurd hx List.not_mem_nil, List.nodup_nil⟩, fun x hx => absurd hx List.not_mem_nil, HI.out.1, ⟨rfl, .inl ⟨rfl, rfl⟩⟩, by rw [HI.out.2.2]; exact Nat.le_refl _, HI.out.2.1⟩
  case round =>
    clear HI
    obtain ⟨k, Q, v, hkl, rfl, hq, hqa, hK, hrow, hsz, hB⟩ := hrel
    have HQ := Lib.hid (And.intro hq hqa)
    have hql := hq.le
    clear hq hqa
    obtain ⟨wA, wc, rfl, _, _⟩ := own_sl hrow
    by_cases hlt : k < len
    · have hlt' : (k : Int) < (len : Int) := by omega
      have hk0 : (0 : Int) ≤ (k : Int) := by omega
      obtain ⟨b, off, rfl, hb, hc⟩ := HS.out (by omega)
      have k0 := keepAt hB hb (hc k hlt)
      dsimp only at k0
      clear hc
      obtain ⟨z, hz⟩ : ∃ z, Z k = z := ⟨_, rfl⟩
      rw [hz] at k0
      clear hz
      by_cases he : slpE Q z = 0
      · have cS := sleep_yes kb (kb + 1) v Q (by omega) z addr he wr hK hsz
        have HR := Lib.hid (And.intro hK (And.intro hrow he))
        clear hK hrow he
        go_wp2_with fail
        refine cS.mono ?_
        rintro e w3 ⟨rfl, v3, hK3, hS3⟩
        have k1 : w3.cell? ⟨b, off + k, none⟩ = some (.int .i64 z) := keepAt (hS3.below HR.out.1 hkb) (Nat.lt_of_lt_of_le hb (Nat.le_refl _)) k0
        have hrow3 := hS3.row HR.out.1 HR.out.2.1 (by decide) (by decide)
        have hB3 := hB.trans (hS3.below HR.out.1 hkb)
        have hal := (Below.refl w3.heap.size w3).alloc (Nat.le_refl _) (.cells #[.int .i64 z] 3)
        have hK4 := hK3.below hal
        have hrow4 := own_below hrow3 (Nat.le_refl _) hal
        have hB4 := step_below hB3 hal
        have hsz4 : kb + 1 ≤ (w3.alloc (.cells #[.int .i64 z] 3)).heap.size := Nat.le_trans hsz (Nat.le_trans hS3.size hal.size)
        have hsl4 := sl_new w3 3 [.int .i64 z]
        have hone : ∀ k, k < 1 * 1 → ([Value.int .i64 z].getD k undef).oneCell' = true := fun k hk => by
          obtain rfl : k = 0 := by omega
          rfl
        have HK := Lib.hid (And.intro hK4 hB4)
        clear hK3 hS3 hrow3 hB3 hal hK4 hB4 cS k0
        go_wp2_with (at_builtin; refine wpList_append_sl _ rfl (.tmp 34) (.tmp 39) 55 rfl (kb + 1) 3 i0 _ 1 8 Try.underlying55 hi hy0 hy1 hy2 rfl (by omega) _ Q.length _ rfl hrow4 _ 1 _ (fun i => [Value.int .i64 z].getD i undef) rfl hsl4 hone (by unfold maxLen; omega) (by omega) hsz4 ?_; intro v' w5 hown5 hg5 _; rw [range_getD [Value.int .i64 z] (1 * 1) rfl] at hown5; have hK5 := HK.out.1.apart hrow4 (by omega) hg5; have hB5 := below_own HK.out.2 hrow4 hg5 (by omega) (Nat.le_refl _); have hz5 := Nat.le_trans hsz4 hg5.size; have H5 := Lib.hid (And.intro hK5 (And.intro hown5 (And.intro hz5 hB5))); clear hK5 hown5 hz5 hB5 hg5 hrow4 hsl4 hone hsz4)
        go_roundw
        case rel =>
          refine ⟨k + 1, Q ++ [(z, addr)], _, by omega, by go_num, HQ.out.1.snoc HR.out.2.2, fun x hx => ?_, H5.out.1, ?_, H5.out.2.2.1, H5.out.2.2.2⟩
          · rcases List.mem_append.1 hx with h | h
            · exact HQ.out.2 x h
            · rw [List.mem_singleton.1 h]
          · rw [List.length_append, List.map_append, List.map_append]
            exact H5.out.2.1
        case measure => simp [intOf]; omega
      · have cS := sleep_no kb (kb + 1) v Q (by omega) z addr he wr hK
        have heb : (slpE Q z == 0) = false := by simpa using he
        generalize slpE Q z = ez at cS heb
        have HR := Lib.hid (And.intro hK hrow)
        clear hK hrow he
        go_wp2_with fail
        refine cS.mono ?_
        rintro e w3 ⟨rfl, hb3⟩
        have H5 := Lib.hid (And.intro (HR.out.1.below hb3) (And.intro (own_below HR.out.2 (Nat.le_refl _) hb3) (And.intro (Nat.le_trans hsz hb3.size) (step_below hB hb3))))
        clear hb3 k0
        go_wp2
        go_roundw
        case rel => exact ⟨k + 1, Q, v, by omega, by go_num, HQ.out.1, HQ.out.2, H5.out.1, H5.out.2.1, H5.out.2.2.1, H5.out.2.2.2⟩
        case measure => simp [intOf]; omega
    · obtain rfl : len = k := by omega
      have hlt' : ¬ (len : Int) < (len : Int) := by omega
      have hwlt := own_lt hrow
      have HI := Lib.hid (And.intro hK (And.intro hrow (And.intro hB hwlt)))
      clear hK hrow hB hwlt
      go_wp2
      obtain ⟨wo, rfl⟩ : ∃ wo : World, wo = wr := ⟨_, rfl⟩
      go_loopw [10, 11] (fun gv i wr => ∃ (r a : Nat) (v : Value), r ≤ 20 ∧ i = .int .i64 r ∧ K wr kb (kb + 1) v (Q.drop (r * n)) ∧ wr.ownsRow wo.heap.size 3 1 gv a (((Q.take (r * n)).map Prod.fst).map (Value.int .i64)) ∧
        wr.ownsRow (kb + 1) 3 1 (.slice wA Q.length wc) Q.length ((Q.map Prod.fst).map (Value.int .i64)) ∧ wo.heap.size ≤ wr.heap.size ∧ Below w.heap.size w wr) (fun _ i _ => 20 - (intOf i).toNat)
      case atStart =>
        refine ⟨0, 0, v, by omega, rfl, ?_, ?_, HI.out.2.1, Nat.le_refl _, HI.out.2.2.1⟩
        · rw [Nat.zero_mul, List.drop_zero]; exact HI.out.1
        · rw [Nat.zero_mul, List.take_zero]; exact ⟨rfl, .inl ⟨rfl, rfl⟩⟩
      case round =>
        obtain ⟨r, a, v, hr, rfl, hK, hgot, hrow, hszr, hB⟩ := hrel
        have hal : a = (Q.take (r * n)).length := by have := hgot.1; simp at this; simp; omega
        obtain ⟨gA, gc, rfl, _, _⟩ := own_sl hgot
        by_cases hlr : r < 20
        · have hlr' : (r : Int) < 20 := by omega
          have hdl : (Q.drop (r * n)).length ≤ 8 := by rw [List.length_drop]; omega
          have htl : a ≤ 8 := by rw [hal, List.length_take]; omega
          clear hal
          have cW := wake_any kb (kb + 1) v (Q.drop (r * n)) (by omega) addr n hn wr hK (by omega)
          have HR := Lib.hid (And.intro hK (And.intro hgot hrow))
          clear hK hgot hrow
          go_wp2_with fail
          refine cW.mono ?_
          rintro e w3 ⟨v3, ov, rfl, hK3, _, ho, hS3⟩
          rw [wk_all (fun x hx => HQ.out.2 x (List.mem_of_mem_drop hx))] at hK3 ho
          dsimp only at hK3 ho
          obtain ⟨oA, oc, rfl, hol, _, hsl⟩ := own_ints ho
          obtain ⟨m, hm⟩ : ∃ m, (((Q.drop (r * n)).take n).map Prod.fst).length = m := ⟨_, rfl⟩
          have hmn : m ≤ n ∧ m ≤ 8 := by
            rw [← hm, List.length_map, List.length_take]
            exact ⟨Nat.min_le_left _ _, Nat.le_trans (Nat.min_le_right _ _) hdl⟩
          rw [hm] at hsl ⊢
          have hmn' : ¬ (n : Int) < (m : Int) := by omega
          have hgot3 := hS3.row HR.out.1 HR.out.2.1 (by decide) (by decide)
          have hrow3 := hS3.row HR.out.1 HR.out.2.2 (by decide) (by decide)
          have hB3 := hB.trans (hS3.below HR.out.1 hkb)
          have hsz3 : wo.heap.size ≤ w3.heap.size := Nat.le_trans hszr hS3.size
          have hone : ∀ k, k < m * 1 → (Value.int .i64 ((((Q.drop (r * n)).take n).map Prod.fst).getD k 0)).oneCell' = true := fun k hk => rfl
          have HM := Lib.hid (And.intro hm (And.intro hK3 (And.intro hrow3 hB3)))
          rw [show m = m * 1 from (Nat.mul_one m).symm] at hsl
          clear hm hK3 hrow3 hB3 ho hol hS3 cW
          go_wp2_with (at_builtin; refine wpList_append_sl _ rfl (.tmp 54) (.tmp 55) 55 rfl wo.heap.size 3 i0 _ 1 8 Try.underlying55 hi hy0 hy1 hy2 rfl (by omega) _ a _ rfl hgot3 _ m _ (fun i => .int .i64 ((((Q.drop (r * n)).take n).map Prod.fst).getD i 0)) rfl hsl hone (by unfold maxLen; omega) (by omega) hsz3 ?_; intro v' w5 hown5 hg5 _; have hK5 := HM.out.2.1.apart hgot3 (by omega) hg5; have hrow5 := own_far HM.out.2.2.1 hg5 (fun i e1 e2 => absurd (own_ge hgot3 i e2) (Nat.not_le.2 (HI.out.2.2.2 i e1))); have hB5 := below_own HM.out.2.2.2 hgot3 hg5 (by omega) (Nat.le_refl _); have hz5 := Nat.le_trans hsz3 hg5.size; have H5 := Lib.hid (And.intro hK5 (And.intro hown5 (And.intro hrow5 (And.intro hz5 hB5)))); clear hK5 hown5 hz5 hB5 hg5 hgot3 hsl hone hsz3 hrow5)
          go_roundw
          case rel =>
            have hrn : (r + 1) * n = r * n + n := by rw [Nat.add_mul, Nat.one_mul]
            have htk : Q.take (r * n + n) = Q.take (r * n) ++ (Q.drop (r * n)).take n := List.take_add
            refine ⟨r + 1, a + m, v3, by omega, by go_num, ?_, ?_, H5.out.2.2.1, H5.out.2.2.2.1, H5.out.2.2.2.2⟩
            · rw [hrn, ← List.drop_drop]
              exact H5.out.1
            · have h := H5.out.2.1
              rw [hrn, htk, List.map_append, List.map_append]
              have hx : (List.range (m * 1)).map (fun i => Value.int .i64 ((((Q.drop (r * n)).take n).map Prod.fst).getD i 0)) = (((Q.drop (r * n)).take n).map Prod.fst).map (Value.int .i64) := by
                rw [Nat.mul_one, ← HM.out.1]
                apply List.ext_getElem
                · simp
                · intro i h1 h2
                  simp at h1
                  simp [List.getD_eq_getElem?_getD, h1]
              rw [hx] at h
              exact h
          case measure => simp [intOf]; omega
        · obtain rfl : r = 20 := by omega
          have cA := all_any kb (kb + 1) v (Q.drop (20 * n)) (by rw [List.length_drop]; omega) wr hK
          by_cases hn0 : n = 0
          · subst hn0
            rw [Nat.mul_zero, List.drop_zero] at cA
            have ha : a = 0 := by rw [hal, Nat.mul_zero]; rfl
            subst ha
            have hne : ((Q.length : Int) == (Q.length : Int)) = true := by simp
            clear hK hgot hrow hal
            go_wp2_with fail
            refine cA.mono ?_
            rintro e w3 ⟨o, rfl, ho, hb3⟩
            obtain ⟨oA, oc, rfl, _, _⟩ := own_sl ho
            have hB3 := step_below hB hb3
            clear ho hb3
            go_wp2
            go_ret
            exact ⟨rfl, hB3⟩
          · have hn1 : ((n : Int) == 0) = false := by simpa using hn0
            have hq0 : Q.drop (20 * n) = [] := List.drop_of_length_le (by omega)
            have hq1 : Q.take (20 * n) = Q := List.take_of_length_le (by omega)
            rw [hq0] at cA hK
            rw [hq1] at hgot hal
            subst hal
            obtain ⟨_, _, e1, q1, q2, s1⟩ := own_ints hgot
            clear q1 q2
            injection e1 with e1 e3 e2
            clear e3
            subst e1 e2
            obtain ⟨_, _, e1, q1, q2, s2⟩ := own_ints hrow
            clear q1 q2
            injection e1 with e1 e3 e2
            clear e3
            subst e1 e2
            have cN := numbers_eq gA wA Q.length gc wc (Q.map Prod.fst) (by omega) wr s1 s2
            have hK9 : ∀ q, K (wr.drewN q) kb (kb + 1) v [] := fun q => ⟨hK.blk, hK.row, hK.lt⟩
            have cA2 := fun q => all_any kb (kb + 1) v [] (by simp) (wr.drewN q) (hK9 q)
            have HA := Lib.hid cA2
            clear hK hgot hrow hq0 hq1 s1 s2 cA cA2 hK9 hn0
            go_wp2_with fail
            refine cN.mono ?_
            rintro e w3 ⟨rfl, q, rfl⟩
            go_wp2_with fail
            refine (HA.out q).mono ?_
            rintro e w4 ⟨o, rfl, ho, hb4⟩
            obtain ⟨oA, oc, rfl, _, _⟩ := own_sl ho
            have hB4 : Below w.heap.size w w4 := hB.trans ⟨hb4.os, hb4.tape, hb4.output, hb4.size, fun i hi => hb4.block i (Nat.lt_of_lt_of_le hi hB.size)⟩
            clear ho hb4 cN
            go_wp2
            go_ret
            exact ⟨rfl, hB4⟩

set_option maxRecDepth 100000 in
theorem kernOrder_lifted (os : Os) (started : os.Started) (H : Type) (enc : TypeId × Value → H) :
    ReturnsInHanded {} Try.checked os 7 .any (Rows.kernOrderSpec.pre6 enc Try.prog Try.f7 Rows.kernOrderRow.domain false) (Rows.kernOrderSpec.post enc Try.prog Try.f7 false true false false) := by
  refine law_lifted started (by kernel_rfl) Try.func7
    (ChangeSpec.witness6 (enc := enc) (C := Try.checked) false ⟨#[], #[.slice none 0 0, .int .i64 0, .int .u32 0], []⟩ 8 (by kernel_rfl) (by kernel_rfl) (by kernel_rfl) (by kernel_rfl))
    4 rfl (by kernel_rfl) Try.underlying4 (fun ds h => ?_) (by kernel_rfl) ?_
  · rw [show Try.f7.params.size = 3 from by kernel_rfl] at h
    match ds, h with
    | [_, _, _], _ => rfl
  intro W base args ds p hval hA hlt hsz
  rw [Try.params7] at hA hval hsz
  obtain ⟨v0, v1, v2, d0, d1, d2, p0, p1, p2, rfl, rfl, rfl, h0, h1, h2⟩ := trodAll_three hA
  obtain ⟨A, len, cap, Z, rfl, hlc, hcm, hsl, hwz⟩ := open_sl_ints Try.underlying55 Try.underlying3 (by kernel_rfl) (hval 0 55 v0 rfl rfl) h0 (fun x hx => hlt x (by simp [hx]))
  obtain ⟨z, rfl, rfl, rfl, ws⟩ := open_int Try.underlying3 (hval 1 3 v1 rfl rfl) h1
  obtain ⟨y, rfl, rfl, rfl, ys⟩ := open_int Try.underlying24 (hval 2 24 v2 rfl rfl) h2
  have hy := bounds_u32 ys
  obtain ⟨n, rfl⟩ : ∃ n : Nat, y = (n : Int) := ⟨y.toNat, by omega⟩
  by_cases h : len ≤ 300
  · exact kernOrder_true A len cap Z z n (by omega) h W hsl
  · exact kernOrder_long A len cap _ _ W (by omega) (by omega)

theorem kernOrder_holds : Rows.KernOrderSaid :=
  OpenClaim.holds_of_wide 7 Try.f7 rfl rfl rfl rfl rfl rfl rfl ⟨rfl, rfl, rfl, rfl, rfl⟩ rfl rfl rfl rfl rfl (by kernel_rfl) Try.func7 (by kernel_rfl)
    (of_decide_eq_true (by kernel_rfl)) (by unfold Func.isWrapper; first | (rw [if_pos (by decide +kernel)]; kernel_rfl) | (rw [if_neg (by decide +kernel)]; exact ⟨rfl, rfl⟩))
    (fun os started H enc _ => kernOrder_lifted os started H enc)
end Go.Proofs.Ytaanmamgmjhegaa
