/- KernApart returns true for all inputs: the row. -/
import Derived.Test.YtaanmamgmjhegaaKernRouses
import Derived.WalkLawsBesides
namespace Go.Proofs.Ytaanmamgmjhegaa
open Go.ChangeShapes Go.WideShapes Go.ChangeAt Go.RowKit Go.Deep
set_option linter.unusedVariables false
set_option linter.unusedSimpArgs false

def atOf (a b : Int) (i : Nat) : Int := if i % 2 = 1 then b else a
def gen (a b : Int) (k : Nat) : List Slp := (List.range k).map fun i : Nat => (((i : Nat) : Int), atOf a b i)
theorem gen_succ (a b : Int) (k : Nat) : gen a b (k + 1) = gen a b k ++ [((k : Int), atOf a b k)] := by unfold gen; rw [List.range_succ, List.map_append]; rfl
theorem gen_len (a b : Int) (k : Nat) : (gen a b k).length = k := by simp [gen]
theorem gen_slp (a b : Int) (k : Nat) (hk : k < 8) : slpE (gen a b k) (k : Int) = 0 := by
  unfold slpE
  rw [if_neg (by omega), if_neg]
  rw [fnd_none]
  · omega
  · intro x hx
    obtain ⟨i, hi, rfl⟩ := List.mem_map.1 hx
    have : i < k := by simpa using hi
    show (i : Int) ≠ (k : Int)
    omega
theorem gen_eight (a b : Int) : gen a b 8 = [(0, a), (1, b), (2, a), (3, b), (4, a), (5, b), (6, a), (7, b)] := rfl
structure Apart (a b : Int) (n : Nat) (L : List Slp) (T : List Int) : Prop where
  l1 : ∀ x ∈ L, (x.1 % 2 = 1 ∧ x.2 = b) ∨ (x.1 % 2 = 0 ∧ x.2 = a)
  l2 : ∀ x ∈ L, 0 ≤ x.1 ∧ x.1 ≤ 7
  l3 : L.countP (fun x => x.1 % 2 == 1) = 4
  t1 : ∀ t ∈ T, t % 2 = 0 ∧ 0 ≤ t ∧ t ≤ 7
  sum : L.length + T.length = 8
  len : T.length = min n 4
theorem apart (a b : Int) (n : Nat) (hab : a ≠ b) : Apart a b n (wk a n (gen a b 8)).1 (wk a n (gen a b 8)).2 := by
  have hba : b ≠ a := fun e => hab e.symm
  rw [gen_eight]
  rcases (by omega : n = 0 ∨ n = 1 ∨ n = 2 ∨ n = 3 ∨ 4 ≤ n) with rfl | rfl | rfl | rfl | h
  · have e : wk a 0 [(0, a), (1, b), (2, a), (3, b), (4, a), (5, b), (6, a), (7, b)] = ([(0, a), (1, b), (2, a), (3, b), (4, a), (5, b), (6, a), (7, b)], []) := by simp [wk, wstep]
    rw [e]
    constructor <;> simp
  · have e : wk a 1 [(0, a), (1, b), (2, a), (3, b), (4, a), (5, b), (6, a), (7, b)] = ([(1, b), (2, a), (3, b), (4, a), (5, b), (6, a), (7, b)], [0]) := by simp [wk, wstep, hba]
    rw [e]
    constructor <;> simp
  · have e : wk a 2 [(0, a), (1, b), (2, a), (3, b), (4, a), (5, b), (6, a), (7, b)] = ([(1, b), (3, b), (4, a), (5, b), (6, a), (7, b)], [0, 2]) := by simp [wk, wstep, hba]
    rw [e]
    constructor <;> simp
  · have e : wk a 3 [(0, a), (1, b), (2, a), (3, b), (4, a), (5, b), (6, a), (7, b)] = ([(1, b), (3, b), (5, b), (6, a), (7, b)], [0, 2, 4]) := by simp [wk, wstep, hba]
    rw [e]
    constructor <;> simp
  · have h0 : 0 < n := by omega
    have h1 : 1 < n := by omega
    have h2 : 2 < n := by omega
    have h3 : 3 < n := by omega
    have e : wk a n [(0, a), (1, b), (2, a), (3, b), (4, a), (5, b), (6, a), (7, b)] = ([(1, b), (3, b), (5, b), (7, b)], [0, 2, 4, 6]) := by simp [wk, wstep, hba, h0, h1, h2, h3]
    rw [e]
    constructor <;> simp
    omega
def oddc (L : List Slp) : Nat := L.countP (fun x => x.1 % 2 == 1)

theorem kernApart_same (a : Int) (c : Value) (w : World) :
    Calls Try.prog 8 #[.int .i64 a, .int .i64 a, c] w fun e w' => e = .returned (.bool true) ∧ Below w.heap.size w w' := by
  have he : (a == a) = true := by simp
  go_enter Try.func8, Try.ntmps8
  go_wp2_with fail
  refine (kernAwake_any _).mono ?_
  rintro e w1 ⟨rfl, hb1⟩
  go_wp2_with fail
  refine (kernAwake_any _).mono ?_
  rintro e w2 ⟨rfl, hb2⟩
  go_wp2
  go_ret
  exact ⟨rfl, step_below hb1 hb2⟩

set_option maxRecDepth 100000 in
set_option maxHeartbeats 4000000 in
theorem kernApart_true (a b : Int) (n : Nat) (hn : n ≤ 4294967295) (hab : a ≠ b) (w : World) :
    Calls Try.prog 8 #[.int .i64 a, .int .i64 b, .int .u32 (n : Int)] w fun e w' => e = .returned (.bool true) ∧ Below w.heap.size w w' := by
  have HP := Lib.hid (apart a b n hab)
  have hne : (a == b) = false := by simpa using hab
  have HB := Lib.hid hab
  clear hab
  go_enter Try.func8, Try.ntmps8
  go_wp2_with fail
  refine (kernAwake_any _).mono ?_
  rintro e w1 ⟨rfl, hb1⟩
  have hk := K.new w1
  have hB0 := hb1.alloc hb1.size (.cells #[.slice none 0 0] 58)
  have hsz : (w1.alloc (.cells #[.slice none 0 0] 58)).heap.size = w1.heap.size + 1 := by simp
  have hkb : w.heap.size ≤ w1.heap.size := hb1.size
  go_wp2_with fail
  obtain ⟨w2, hw2⟩ : ∃ w2, w1.alloc (.cells #[.slice none 0 0] 58) = w2 := ⟨_, rfl⟩
  rw [hw2] at hk hB0 hsz ⊢
  clear hw2 hb1
  obtain ⟨kb, hkbe⟩ : ∃ kb, w1.heap.size = kb := ⟨_, rfl⟩
  rw [hkbe] at hk hsz hkb ⊢
  clear hkbe
  have HI := Lib.hid (And.intro hk (And.intro hB0 hsz))
  clear hk hB0 hsz
  go_loopw [8, 9] (fun i _ wr => ∃ (k : Nat) (v : Value), k ≤ 8 ∧ i = .int .i64 k ∧ K wr kb (kb + 1) v (gen a b k) ∧ kb + 1 ≤ wr.heap.size ∧ Below w.heap.size w wr) (fun i _ _ => 8 - (intOf i).toNat)
  case atStart => exact ⟨0, _, Nat.zero_le _, rfl, HI.out.1, by rw [HI.out.2.2]; exact Nat.le_refl _, HI.out.2.1⟩
  case round =>
    clear HI
    obtain ⟨k, v, hkl, rfl, hK, hsz, hB⟩ := hrel
    by_cases hlt : k < 8
    · have hlt' : (k : Int) < 8 := by omega
      have hk0 : (0 : Int) ≤ (k : Int) := by omega
      have cS := sleep_yes kb (kb + 1) v (gen a b k) (by rw [gen_len]; omega) (k : Int) (atOf a b k) (gen_slp a b k hlt) wr hK hsz
      have HK := Lib.hid (And.intro hK hB)
      clear hK hB
      rcases Decidable.em (k % 2 = 1) with hp | hp
      case' inl =>
        have hp1 : ((k : Int) % 2 == 1) = true := by simp; omega
        rw [show atOf a b k = b from if_pos hp] at cS
        have hgs : gen a b (k + 1) = gen a b k ++ [((k : Int), b)] := by rw [gen_succ, show atOf a b k = b from if_pos hp]
      case' inr =>
        have hp1 : ((k : Int) % 2 == 1) = false := by simp; omega
        rw [show atOf a b k = a from if_neg hp] at cS
        have hgs : gen a b (k + 1) = gen a b k ++ [((k : Int), a)] := by rw [gen_succ, show atOf a b k = a from if_neg hp]
      all_goals
        have HG := Lib.hid hgs
        clear hgs hp
        go_wp2_with fail
        refine cS.mono ?_
        rintro e w3 ⟨rfl, v3, hK3, hS3⟩
        rw [← HG.out] at hK3
        have H5 := Lib.hid (And.intro hK3 (And.intro (Nat.le_trans hsz hS3.size) (HK.out.2.trans (hS3.below HK.out.1 hkb))))
        clear hK3 hS3 cS
        go_wp2
        go_roundw
        case rel => exact ⟨k + 1, v3, by omega, by go_num, H5.out.1, H5.out.2.1, H5.out.2.2⟩
        case measure => simp [intOf]; omega
    · obtain rfl : k = 8 := by omega
      have cA := all_any kb (kb + 1) v (gen a b 8) (by rw [gen_len]; omega) wr hK
      have HK := Lib.hid (And.intro hK hB)
      clear hK hB hlt
      go_wp2_with fail
      refine cA.mono ?_
      rintro e w3 ⟨o, rfl, ho, hb3⟩
      have hK3 := HK.out.1.below hb3
      have hvlt := own_lt HK.out.1.row
      have hB3 := step_below HK.out.2 hb3
      have hz3 := Nat.le_trans hsz hb3.size
      rw [gen_len] at ho
      obtain ⟨g, oc, rfl⟩ : ∃ g oc, o = .slice (some ⟨g, 0, none⟩) 8 oc := by
        rcases ho.2 with ⟨_, e⟩ | ⟨g, c, cur, e, _⟩
        · cases e
        · exact ⟨g, c, e⟩
      have hgr : wr.heap.size ≤ g := own_ge ho g rfl
      have H3 := Lib.hid (And.intro hK3 (And.intro ho (And.intro hB3 (And.intro hvlt hz3))))
      clear hK3 ho hB3 hvlt hb3 cA HK hz3
      go_wp2_with fail
      obtain ⟨wo, rfl⟩ : ∃ wo : World, wo = wr := ⟨_, rfl⟩
      go_loopw [11] (fun i wr => ∃ (j : Nat) (xs : List Value), j ≤ 8 ∧ i = .int .i64 j ∧ K wr kb (kb + 1) v (gen a b 8) ∧ wr.ownsRow wo.heap.size 66 2 (.slice (some ⟨g, 0, none⟩) 8 oc) 8 xs ∧ kb + 1 ≤ wr.heap.size ∧ Below w.heap.size w wr) (fun i _ => 8 - (intOf i).toNat)
      case atStart => exact ⟨0, _, by omega, rfl, H3.out.1, H3.out.2.1, H3.out.2.2.2.2, H3.out.2.2.1⟩
      case round =>
        obtain ⟨j, xs, hj, rfl, hK, ho, hz, hB⟩ := hrel
        by_cases hj8 : j < 8
        · have hj0 : (0 : Int) ≤ (j : Int) := by omega
          have hj1 : (j : Int) < 8 := by omega
          have f0 := ho.frozenAt (j * 2)
          obtain ⟨u, hu⟩ : ∃ u, wr.cell? ⟨g, j * 2, none⟩ = some u := by
            have := ho.cellAt (j * 2) (by omega)
            rw [List.getElem?_eq_getElem (by rw [ho.1]; omega)] at this
            exact ⟨_, this⟩
          have hg1 := set_only (w := wr) (g := g) (j := j * 2) (.int .i64 (-1))
          have hvg : v.ownBlock ≠ some g := fun e => by have := H3.out.2.2.2.1 g e; omega
          have hKn : K (wr.setCell ⟨g, j * 2, none⟩ (.int .i64 (-1))) kb (kb + 1) v (gen a b 8) :=
            ⟨hK.blk.far (by show kb ≠ g; omega) _, own_far hK.row hg1 (fun i e e2 => hvg (by rw [e, ← e2])), by omega⟩
          have H5 := Lib.hid (And.intro hKn (And.intro (ho.stored (j * 2) (.int .i64 (-1))).1 (And.intro (Nat.le_trans hz hg1.size) (hB.setCell (p := ⟨g, j * 2, none⟩) (by show w.heap.size ≤ g; omega) (.int .i64 (-1))))))
          clear hKn hK ho hz hB hg1 hvg
          go_wp2
          go_roundw
          case rel => exact ⟨j + 1, _, by omega, by go_num, H5.out.1, H5.out.2.1, H5.out.2.2.1, H5.out.2.2.2⟩
          case measure => simp [intOf]; omega
        · obtain rfl : j = 8 := by omega
          have cW := wake_any kb (kb + 1) v (gen a b 8) (by rw [gen_len]; omega) a n hn wr hK hz
          have HK := Lib.hid (And.intro hK (And.intro hB hz))
          clear hK hB hz ho hj8
          go_wp2_with fail
          refine cW.mono ?_
          rintro e w4 ⟨v4, ov, rfl, hK4, _, hov, hS4⟩
          obtain ⟨L, hL⟩ : ∃ L, (wk a n (gen a b 8)).1 = L := ⟨_, rfl⟩
          obtain ⟨T, hT⟩ : ∃ T, (wk a n (gen a b 8)).2 = T := ⟨_, rfl⟩
          rw [hL] at hK4
          rw [hT] at hov
          have hP := HP.out
          rw [hL, hT] at hP
          obtain ⟨tA, tc, rfl, q1, q2, hts⟩ := own_ints hov
          clear q1 q2
          obtain ⟨m, hm⟩ : ∃ m, T.length = m := ⟨_, rfl⟩
          rw [hm] at hts ⊢
          have hm8 : m ≤ 8 := by rw [← hm]; have := hP.sum; omega
          have H4 := Lib.hid (And.intro hK4 (And.intro (HK.out.2.1.trans (hS4.below HK.out.1 hkb)) (And.intro (Nat.le_trans HK.out.2.2 hS4.size) (And.intro hP (And.intro hm hts)))))
          clear hK4 hS4 hP hm hts hov hL hT cW
          go_wp2_with fail
          go_loopw [13] (fun i wr => ∃ j : Nat, j ≤ m ∧ i = .int .i64 j ∧ wr = w4) (fun i _ => m - (intOf i).toNat)
          case atStart => exact ⟨0, Nat.zero_le _, rfl, rfl⟩
          case round =>
            obtain ⟨j, hj, rfl, rfl⟩ := hrel
            by_cases hjm : j < m
            · have hj0 : (0 : Int) ≤ (j : Int) := by omega
              have hj1 : (j : Int) < (m : Int) := by omega
              obtain ⟨b1, o1, rfl, hb1, hc⟩ := H4.out.2.2.2.2.2 (by omega)
              have k0 := hc j hjm
              dsimp only at k0
              have ht := H4.out.2.2.2.1.t1 (T.getD j 0) (getD_mem (by rw [H4.out.2.2.2.2.1]; exact hjm))
              obtain ⟨t, htt⟩ : ∃ t, T.getD j 0 = t := ⟨_, rfl⟩
              rw [htt] at k0 ht
              obtain ⟨t1, t2, t3⟩ := ht
              have t4 : ((t % 2) != 0) = false := by simp [t1]
              clear hc htt t1
              go_wp2
              go_roundw
              case rel => exact ⟨j + 1, by omega, by go_num, by trivial⟩
              case measure => simp [intOf]; omega
            · obtain rfl : m = j := by omega
              have hj1 : ¬ (m : Int) < (m : Int) := by omega
              have cA := all_any kb (kb + 1) v4 L (by have := H4.out.2.2.2.1.sum; omega) wr H4.out.1
              go_wp2_with fail
              refine cA.mono ?_
              rintro e w5 ⟨o5, rfl, ho5, hb5⟩
              obtain ⟨lA, lc, rfl, _, hls⟩ := own_sle slp (fun _ => rfl) (0, 0) L ho5
              obtain ⟨ll, hll⟩ : ∃ ll, L.length = ll := ⟨_, rfl⟩
              rw [hll] at hls ⊢
              have hll8 : ll ≤ 8 := by have := H4.out.2.2.2.1.sum; omega
              have H5 := Lib.hid (And.intro hll (And.intro hls (step_below H4.out.2.1 hb5)))
              clear hll hls ho5 hb5 cA
              go_wp2_with fail
              obtain ⟨wz, rfl⟩ : ∃ wz : World, wz = wr := ⟨_, rfl⟩
              go_loopw [15, 16] (fun c i wr => ∃ j k : Nat, j ≤ ll ∧ i = .int .i64 j ∧ c = .int .i64 k ∧ k = oddc (L.take j) ∧ k ≤ j ∧ wr = w5) (fun _ i _ => ll - (intOf i).toNat)
              case atStart => exact ⟨0, 0, Nat.zero_le _, rfl, rfl, rfl, Nat.le_refl _, rfl⟩
              case round =>
                obtain ⟨j, k, hj, rfl, rfl, hk, hkj, rfl⟩ := hrel
                have HK9 := Lib.hid hk
                clear hk
                by_cases hjl : j < ll
                · have hj0 : (0 : Int) ≤ (j : Int) := by omega
                  have hj1 : (j : Int) < (ll : Int) := by omega
                  obtain ⟨b1, o1, rfl, hb1, hcc⟩ := H5.out.2.1 (by omega)
                  have k0 := hcc j hjl 0 (.int .i64 (L.getD j (0, 0)).1) rfl
                  have k1 := hcc j hjl 1 (.int .i64 (L.getD j (0, 0)).2) rfl
                  rw [Nat.add_zero] at k0
                  have hmem : L.getD j (0, 0) ∈ L := getD_mem (by rw [H5.out.1]; exact hjl)
                  have x1 := H4.out.2.2.2.1.l1 _ hmem
                  have x2 := H4.out.2.2.2.1.l2 _ hmem
                  have hsn := take_snoc L j (0, 0) (by rw [H5.out.1]; exact hjl)
                  obtain ⟨⟨p, q⟩, hx⟩ : ∃ x, L.getD j (0, 0) = x := ⟨_, rfl⟩
                  rw [hx] at k0 k1 x1 x2 hsn
                  dsimp only at k0 k1 x1 x2
                  obtain ⟨x2, x3⟩ := x2
                  clear hcc hmem hx
                  rcases x1 with ⟨h1, rfl⟩ | ⟨h1, rfl⟩
                  · have h2 : ((p % 2) == 1) = true := by simp [h1]
                    have h3 : (q == q) = true := by simp
                    have ho : oddc (L.take (j + 1)) = k + 1 := by
                      rw [hsn, HK9.out]
                      unfold oddc
                      rw [List.countP_append]
                      simp [h1]
                    have HO := Lib.hid ho
                    clear ho hsn h1
                    go_wp2
                    go_roundw
                    case rel => exact ⟨j + 1, k + 1, by omega, by go_num, by go_num, HO.out.symm, by omega, by trivial⟩
                    case measure => simp [intOf]; omega
                  · have h2 : ((p % 2) == 1) = false := by simp [h1]
                    have ho : oddc (L.take (j + 1)) = k := by
                      rw [hsn, HK9.out]
                      unfold oddc
                      rw [List.countP_append]
                      simp [h1]
                    have HO := Lib.hid ho
                    clear ho hsn h1
                    go_wp2
                    go_roundw
                    case rel => exact ⟨j + 1, k, by omega, by go_num, rfl, HO.out.symm, by omega, by trivial⟩
                    case measure => simp [intOf]; omega
                · obtain rfl : ll = j := by omega
                  have hj1 : ¬ (ll : Int) < (ll : Int) := by omega
                  have hk4 : k = 4 := by
                    have h := HK9.out
                    rw [List.take_of_length_le (by rw [H5.out.1]; exact Nat.le_refl _)] at h
                    rw [h]
                    exact H4.out.2.2.2.1.l3
                  subst hk4
                  have hs8 : ll + m = 8 := by have := H4.out.2.2.2.1.sum; rw [H5.out.1, H4.out.2.2.2.2.1] at this; exact this
                  have hs9 : ((ll : Int) + (m : Int) == 8) = true := by rw [beq_iff_eq]; omega
                  have hmn : m = min n 4 := by have := H4.out.2.2.2.1.len; rw [H4.out.2.2.2.2.1] at this; exact this
                  have HMN := Lib.hid (And.intro hs8 hmn)
                  clear hs8 hmn
                  have hmi : (m : Int) = min (n : Int) 4 := by have := HMN.out.2; omega
                  have HMI := Lib.hid hmi
                  clear hmi
                  go_wp2
                  all_goals
                    go_ret
                    refine ⟨?_, H5.out.2.2⟩
                    have hmi := HMI.out
                    simp
                    omega

set_option maxRecDepth 100000 in
theorem kernApart_lifted (os : Os) (started : os.Started) (H : Type) (enc : TypeId × Value → H) :
    ReturnsInHanded {} Try.checked os 8 .any (Rows.kernApartSpec.pre6 enc Try.prog Try.f8 Rows.kernApartRow.domain false) (Rows.kernApartSpec.post enc Try.prog Try.f8 false true false false) := by
  refine law_lifted started (by kernel_rfl) Try.func8
    (ChangeSpec.witness6 (enc := enc) (C := Try.checked) false ⟨#[], #[.int .i64 0, .int .i64 0, .int .u32 0], []⟩ 8 (by kernel_rfl) (by kernel_rfl) (by kernel_rfl) (by kernel_rfl))
    4 rfl (by kernel_rfl) Try.underlying4 (fun ds h => ?_) (by kernel_rfl) ?_
  · rw [show Try.f8.params.size = 3 from by kernel_rfl] at h
    match ds, h with
    | [_, _, _], _ => rfl
  intro W base args ds p hval hA hlt hsz
  rw [Try.params8] at hA hval hsz
  obtain ⟨v0, v1, v2, d0, d1, d2, p0, p1, p2, rfl, rfl, rfl, h0, h1, h2⟩ := trodAll_three hA
  obtain ⟨x, rfl, rfl, rfl, xs⟩ := open_int Try.underlying3 (hval 0 3 v0 rfl rfl) h0
  obtain ⟨z, rfl, rfl, rfl, ws⟩ := open_int Try.underlying3 (hval 1 3 v1 rfl rfl) h1
  obtain ⟨y, rfl, rfl, rfl, ys⟩ := open_int Try.underlying24 (hval 2 24 v2 rfl rfl) h2
  have hy := bounds_u32 ys
  obtain ⟨n, rfl⟩ : ∃ n : Nat, y = (n : Int) := ⟨y.toNat, by omega⟩
  by_cases h : x = z
  · subst h
    exact kernApart_same x _ W
  · exact kernApart_true x z n (by omega) h W

theorem kernApart_holds : Rows.KernApartSaid :=
  OpenClaim.holds_of_wide 8 Try.f8 rfl rfl rfl rfl rfl rfl rfl ⟨rfl, rfl, rfl, rfl, rfl⟩ rfl rfl rfl rfl rfl (by kernel_rfl) Try.func8 (by kernel_rfl)
    (of_decide_eq_true (by kernel_rfl)) (by unfold Func.isWrapper; first | (rw [if_pos (by decide +kernel)]; kernel_rfl) | (rw [if_neg (by decide +kernel)]; exact ⟨rfl, rfl⟩))
    (fun os started H enc _ => kernApart_lifted os started H enc)
end Go.Proofs.Ytaanmamgmjhegaa
