/- RwCode. -/
import Derived.Test.YtmhfpjnkjlhbpaaGreatDoorTxt
import Derived.Test.YtmhfpjnkjlhbpaaGreatDoorBldI
import Derived.Maps.AppendAt
import Derived.Laws.BytesArg
namespace Go.Proofs.YtmhfpjnkjlhbpaaGreatDoor
open Go.ChangeShapes Go.WideShapes Go.ChangeAt Go.RowKit Go.Deep
set_option linter.unusedVariables false
set_option maxRecDepth 100000
set_option linter.unusedSimpArgs false
def ba (s : List UInt8) : ByteArray := ⟨s.toArray⟩
theorem str_ba (s : List UInt8) : str s = .string (ba s) := rfl
theorem ba_size (s : List UInt8) : (ba s).size = s.length := by unfold ba; simp [ByteArray.size]
theorem ba_get (s : List UInt8) (k : Nat) (hk : k < (ba s).size) : ((((ba s)[k]'hk).toNat : Nat) : Int) = ((s.getD k 0).toNat : Int) := by
  have h : k < s.length := by rw [ba_size] at hk; exact hk
  have e : (ba s)[k]'hk = s[k]'h := rfl
  rw [e]
  simp [List.getD_eq_getElem?_getD, List.getElem?_eq_getElem h]
theorem ba_app (s t : List UInt8) : ba s ++ ba t = ba (s ++ t) := by
  apply ByteArray.ext
  simp [ba]
theorem ba_ext_ (s : List UInt8) (i j : Nat) : (ba s).extract i j = ba ((s.take j).drop i) := by
  apply ByteArray.ext
  simp [ba, List.drop_take]
theorem nm_ba (i : Nat) : nmS i = ba (nmB i) := by unfold nmB ba; rfl
theorem fl_ba (i : Nat) : flS i = ba (flB i) := by unfold flB ba; rfl
theorem r4_register (r : Nat) (hr : r < 8) (w : World) :
    Calls Tryz.prog 142 #[str [114, dig r]] w fun e w' => e = .returned (.int .i64 (r : Int)) ∧ Below w.heap.size w w' := by
  have hB := Below.refl w.heap.size w
  have e : str [114, dig r] = .string ⟨#[114, dig r]⟩ := rfl
  rw [e]
  rcases (by omega : r = 0 ∨ r = 1 ∨ r = 2 ∨ r = 3 ∨ r = 4 ∨ r = 5 ∨ r = 6 ∨ r = 7) with rfl | rfl | rfl | rfl | rfl | rfl | rfl | rfl
  all_goals
    unfold dig
    simp only [UInt8.reduceOfNat, Nat.reduceAdd]
    go_enter Tryz.func142, Tryz.ntmps142
    go_wp2
    go_ret
    exact ⟨by first | rfl | decide, hB⟩
theorem valL_lt : ∀ (r : List UInt8), (∀ c ∈ r, isDig c = true) → valL r.reverse < 10 ^ r.length
  | [], _ => by decide
  | c :: r, h => by
    have := valL_lt r (fun x hx => h x (List.mem_cons_of_mem _ hx))
    have hc := of_decide_eq_true (h c List.mem_cons_self)
    rw [List.reverse_cons, valL_snoc, List.length_cons, Nat.pow_succ]
    omega
theorem valL_ten {s : List UInt8} (hd : ∀ c ∈ s, isDig c = true) (hl : s.length ≤ 10) : valL s ≤ 9999999999 := by
  have := valL_lt s.reverse (fun c hc => hd c (List.mem_reverse.1 hc))
  rw [List.reverse_reverse, List.length_reverse] at this
  have h2 : 10 ^ s.length ≤ 10 ^ 10 := Nat.pow_le_pow_right (by decide) hl
  omega
theorem takeB_snoc {s : List UInt8} {k : Nat} (h : k < s.length) : s.take (k + 1) = s.take k ++ [s.getD k 0] := by
  rw [List.take_add_one, List.getElem?_eq_getElem h]
  simp [List.getD_eq_getElem?_getD, List.getElem?_eq_getElem h]
theorem getD_memB {s : List UInt8} {k : Nat} (h : k < s.length) : s.getD k 0 ∈ s := by
  rw [List.getD_eq_getElem?_getD, List.getElem?_eq_getElem h]; exact List.getElem_mem h
structure Bs (b : ByteArray) (s : List UInt8) (n : Nat) : Prop where
  eq : b = ba s
  len : s.length = n
theorem Bs.of (s : List UInt8) : Bs (ba s) s s.length := ⟨rfl, rfl⟩
theorem Bs.size {b : ByteArray} {s : List UInt8} {n : Nat} (h : Bs b s n) : b.size = n := by rw [h.eq, ba_size, h.len]
theorem Bs.at {b : ByteArray} {s : List UInt8} {n : Nat} (h : Bs b s n) (k : Nat) (hk : k < b.size) : (((b[k]'hk).toNat : Nat) : Int) = ((s.getD k 0).toNat : Int) := by
  obtain ⟨rfl, _⟩ := h
  exact ba_get s k hk
set_option maxHeartbeats 1000000 in
theorem r4_number (s : List UInt8) (h1 : 1 ≤ s.length) (h2 : s.length ≤ 10) (hd : ∀ c ∈ s, isDig c = true) (h0 : 1 < s.length → s.headD 0 ≠ 48) (hv : valL s ≤ 4294967295) (w : World) :
    Calls Tryz.prog 144 #[str s] w fun e w' => e = .returned (.int .i64 (valL s : Nat)) ∧ Below w.heap.size w w' := by
  rw [str_ba]
  obtain ⟨b, n, hb⟩ : ∃ b n, Bs b s n := ⟨_, _, Bs.of s⟩
  rw [← hb.eq]
  have hn := hb.size
  have hl := hb.len
  have HB := Lib.hid hb
  rw [hl] at h1 h2 h0
  have hn1 : (1 : Int) ≤ (n : Int) := by omega
  have hn10 : (n : Int) ≤ 10 := by omega
  have hne0 : ((n : Int) == 0) = false := by simp; omega
  have hne1 : decide ((10 : Int) < (n : Int)) = false := decide_eq_false (by omega)
  have hz0 : 0 < b.size := by omega
  have hx0 := HB.out.at 0 hz0
  obtain ⟨c0, hc0⟩ : ∃ c0 : Int, ((s.getD 0 0).toNat : Int) = c0 := ⟨_, rfl⟩
  rw [hc0] at hx0
  have hc48 : 1 < n → c0 ≠ 48 := fun q e => h0 q (by
    have : (s.getD 0 0).toNat = 48 := by omega
    cases s with
    | nil => simp at hl; omega
    | cons a t =>
      show a = 48
      have h : a.toNat = 48 := this
      exact UInt8.toNat_inj.1 h)
  have HS := Lib.hid (And.intro hd (And.intro hv hl))
  clear hb hd h0 hv hl hc0
  rcases Decidable.em (1 < n) with h | h
  case' inl =>
    have hc1 : (c0 == 48) = false := by simpa using hc48 h
    have hni : (1 : Int) < (n : Int) := by omega
  case' inr =>
    have hni : ¬ (1 : Int) < (n : Int) := by omega
  all_goals
    clear hc48
    go_enter Tryz.func144, Tryz.ntmps144
    go_wp2_with fail
    go_loopw [3, 4] (fun v3 v4 wr => ∃ k : Nat, k ≤ n ∧ v4 = .int .i64 k ∧ v3 = .int .i64 ((valL (s.take k) : Nat) : Int) ∧ Below w.heap.size w wr) (fun v3 v4 _ => n - (intOf v4).toNat)
    case atStart => exact ⟨0, Nat.zero_le _, rfl, rfl, Below.refl _ _⟩
    case round =>
      obtain ⟨k, hk, rfl, rfl, hB⟩ := hrel
      by_cases hkn : k < n
      · have hks : k < s.length := by rw [HS.out.2.2]; exact hkn
        have hkb : k < b.size := by omega
        have hx := HB.out.at k hkb
        obtain ⟨c, hc⟩ : ∃ c : Nat, (s.getD k 0).toNat = c := ⟨_, rfl⟩
        rw [hc] at hx
        have hcd := of_decide_eq_true (HS.out.1 _ (getD_memB hks))
        rw [hc] at hcd
        have hc1' : ¬ (c : Int) < 48 := by omega
        have hc2' : (c : Int) ≤ 57 := by omega
        have hc3' : (48 : Int) ≤ (c : Int) := by omega
        have hki : (k : Int) < (n : Int) := by omega
        have hk0 : (0 : Int) ≤ (k : Int) := by omega
        have hvb : valL (s.take k) ≤ 9999999999 := valL_ten (fun x hx => HS.out.1 x (List.mem_of_mem_take hx)) (by rw [List.length_take]; omega)
        have hvs : valL (s.take (k + 1)) = 10 * valL (s.take k) + (c - 48) := by rw [takeB_snoc hks, valL_snoc, hc]
        obtain ⟨v, hv⟩ : ∃ v, valL (s.take k) = v := ⟨_, rfl⟩
        rw [hv] at hvb hvs ⊢
        have hv0 : (0 : Int) ≤ (v : Int) := by omega
        have hv1 : (v : Int) ≤ 9999999999 := by omega
        have HV := Lib.hid (And.intro hvs hB)
        clear hvs hv hcd hc hks hB
        go_wp2
        go_roundw
        case rel =>
          refine ⟨k + 1, by omega, by go_num, ?_, HV.out.2⟩
          rw [HV.out.1]
          congr 1
          omega
        case measure => simp [intOf]; omega
      · obtain rfl : k = n := by omega
        have hki : ¬ (k : Int) < (k : Int) := by omega
        have e : s.take k = s := List.take_of_length_le (by rw [HS.out.2.2]; exact Nat.le_refl _)
        rw [e]
        have hv := HS.out.2.1
        obtain ⟨v, hve⟩ : ∃ v, valL s = v := ⟨_, rfl⟩
        rw [hve] at hv ⊢
        have hv2 : ¬ (4294967295 : Int) < (v : Int) := by omega
        have HF := Lib.hid (And.intro hve hB)
        clear hB e hve
        go_wp2
        go_ret
        exact ⟨by rw [HF.out.1]; rfl, HF.out.2⟩
theorem r4_number_no (s : List UInt8) (hs : NmL s = true) (w : World) :
    Calls Tryz.prog 144 #[str s] w fun e w' => e = .returned (.int .i64 (-1)) ∧ Below w.heap.size w w' := by
  unfold NmL at hs
  simp only [Bool.and_eq_true, decide_eq_true_eq] at hs
  obtain ⟨⟨⟨h1, h2⟩, h3⟩, _⟩ := hs
  have hB := Below.refl w.heap.size w
  rw [str_ba]
  obtain ⟨b, n, hb⟩ : ∃ b n, Bs b s n := ⟨_, _, Bs.of s⟩
  rw [← hb.eq]
  have hn := hb.size
  have hl := hb.len
  rw [hl] at h1 h2
  have h3 := of_decide_eq_true h3
  have e0 : s.headD 0 = s.getD 0 0 := by cases s <;> rfl
  rw [e0] at h3
  have hz0 : 0 < b.size := by omega
  have hx0 := hb.at 0 hz0
  obtain ⟨c0, hc0⟩ : ∃ c0 : Nat, (s.getD 0 0).toNat = c0 := ⟨_, rfl⟩
  rw [hc0] at hx0 h3
  have hne0 : ((n : Int) == 0) = false := by simp; omega
  have hc1 : ((c0 : Int) == 48) = false := by simp; omega
  have hc2 : decide ((c0 : Int) < 48) = false := decide_eq_false (by omega)
  have hc3 : decide ((57 : Int) < (c0 : Int)) = true := decide_eq_true (by omega)
  have hn1 : (0 : Int) < (n : Int) := by omega
  clear hb hl hc0 e0
  by_cases h10 : n ≤ 10
  · have hne1 : decide ((10 : Int) < (n : Int)) = false := decide_eq_false (by omega)
    rcases Decidable.em (1 < n) with h | h
    case' inl => have hni : (1 : Int) < (n : Int) := by omega
    case' inr => have hni : ¬ (1 : Int) < (n : Int) := by omega
    all_goals
      go_enter Tryz.func144, Tryz.ntmps144
      go_wp2_with fail
      go_loopw [3, 4] (fun v3 v4 wr => v4 = .int .i64 0 ∧ v3 = .int .i64 0 ∧ wr = w) (fun v3 v4 _ => 0)
      case atStart => exact ⟨rfl, rfl, rfl⟩
      case round =>
        obtain ⟨rfl, rfl, rfl⟩ := hrel
        go_wp2
        go_ret
        exact ⟨rfl, hB⟩
  · have hne1 : decide ((10 : Int) < (n : Int)) = true := decide_eq_true (by omega)
    go_enter Tryz.func144, Tryz.ntmps144
    go_wp2
    go_ret
    exact ⟨rfl, hB⟩
set_option maxHeartbeats 1000000 in
theorem r4_name (s : List UInt8) (hs : NmL s = true) (w : World) :
    Calls Tryz.prog 105 #[str s] w fun e w' => e = .returned (.bool true) ∧ Below w.heap.size w w' := by
  unfold NmL at hs
  simp only [Bool.and_eq_true, decide_eq_true_eq, List.all_eq_true] at hs
  obtain ⟨⟨⟨h1, h2⟩, h3⟩, h4⟩ := hs
  rw [str_ba]
  obtain ⟨b, n, hb⟩ : ∃ b n, Bs b s n := ⟨_, _, Bs.of s⟩
  rw [← hb.eq]
  have hn := hb.size
  have hl := hb.len
  rw [hl] at h1 h2
  have e0 : s.headD 0 = s.getD 0 0 := by cases s <;> rfl
  rw [e0] at h3
  have HB := Lib.hid (And.intro hb (And.intro hl (And.intro h3 h4)))
  have hn1 : decide ((1 : Int) ≤ (n : Int)) = true := decide_eq_true (by omega)
  have hn2 : decide ((n : Int) ≤ 20) = true := decide_eq_true (by omega)
  have hn20 : (n : Int) ≤ 20 := by omega
  clear hb hl h3 h4 e0
  go_enter Tryz.func105, Tryz.ntmps105
  go_wp2_with fail
  go_loopw [3] (fun v3 wr => ∃ k : Nat, k ≤ n ∧ v3 = .int .i64 k ∧ Below w.heap.size w wr) (fun v3 _ => n - (intOf v3).toNat)
  case atStart => exact ⟨0, Nat.zero_le _, rfl, Below.refl _ _⟩
  case round =>
    obtain ⟨k, hk, rfl, hB⟩ := hrel
    by_cases hkn : k < n
    · have hkb : k < b.size := by omega
      have hx := HB.out.1.at k hkb
      have hks : k < s.length := by rw [HB.out.2.1]; exact hkn
      have hc := HB.out.2.2.2 _ (getD_memB hks)
      have h0 : k = 0 → isLet (s.getD k 0) = true := fun e => by rw [e]; exact HB.out.2.2.1
      generalize s.getD k 0 = ch at hx hc h0
      obtain ⟨c, hcc⟩ : ∃ c : Nat, ch.toNat = c := ⟨_, rfl⟩
      rw [hcc] at hx
      have hki : (k : Int) < (n : Int) := by omega
      have hk0 : (0 : Int) ≤ (k : Int) := by omega
      have hcase : (97 ≤ c ∧ c ≤ 122) ∨ (48 ≤ c ∧ c ≤ 57 ∧ k ≠ 0) := by
        unfold isLet isDig at hc
        unfold isLet at h0
        rw [hcc] at hc h0
        simp only [Bool.or_eq_true, decide_eq_true_eq] at hc h0
        rcases hc with q | q
        · exact .inl q
        · exact .inr ⟨q.1, q.2, fun e => by have := h0 e; omega⟩
      have HBB := Lib.hid hB
      clear hc h0 hcc hks hB
      rcases hcase with ⟨q1, q2⟩ | ⟨q1, q2, q3⟩
      case' inl =>
        have f1 : decide ((97 : Int) ≤ (c : Int)) = true := decide_eq_true (by omega)
        have f2 : decide ((c : Int) ≤ 122) = true := decide_eq_true (by omega)
        have f3 : decide ((48 : Int) ≤ (c : Int)) = true := decide_eq_true (by omega)
        have f4 : decide ((c : Int) ≤ 57) = false := decide_eq_false (by omega)
      case' inr =>
        have f1 : decide ((97 : Int) ≤ (c : Int)) = false := decide_eq_false (by omega)
        have f3 : decide ((48 : Int) ≤ (c : Int)) = true := decide_eq_true (by omega)
        have f4 : decide ((c : Int) ≤ 57) = true := decide_eq_true (by omega)
        have f5 : ((k : Int) == 0) = false := by simp; omega
      all_goals
        go_wp2
        go_roundw
        case rel => exact ⟨k + 1, by omega, by go_num, HBB.out⟩
        case measure => simp [intOf]; omega
    · obtain rfl : k = n := by omega
      have hki : ¬ (k : Int) < (k : Int) := by omega
      have HF := Lib.hid hB
      clear hB
      go_wp2
      go_ret
      exact ⟨rfl, HF.out⟩
def ifM (f : List UInt8) : Nat := if f.contains 77 = true then 1 else 0
theorem r4_ifmem (f : List UInt8) (hf : f.length ≤ 10) (w : World) :
    Calls Tryz.prog 141 #[str f] w fun e w' => e = .returned (.int .i64 (ifM f : Nat)) ∧ Below w.heap.size w w' := by
  rw [str_ba]
  obtain ⟨b, n, hb⟩ : ∃ b n, Bs b f n := ⟨_, _, Bs.of f⟩
  rw [← hb.eq]
  have hn := hb.size
  have hl := hb.len
  rw [hl] at hf
  have hn20 : (n : Int) ≤ 10 := by omega
  have HB := Lib.hid (And.intro hb hl)
  clear hb hl
  go_enter Tryz.func141, Tryz.ntmps141
  go_wp2_with fail
  go_loopw [3] (fun v3 wr => ∃ k : Nat, k ≤ n ∧ v3 = .int .i64 k ∧ (∀ j, j < k → f.getD j 0 ≠ 77) ∧ Below w.heap.size w wr) (fun v3 _ => n - (intOf v3).toNat)
  case atStart => exact ⟨0, Nat.zero_le _, rfl, fun j hj => absurd hj (Nat.not_lt_zero _), Below.refl _ _⟩
  case round =>
    obtain ⟨k, hk, rfl, hall, hB⟩ := hrel
    by_cases hkn : k < n
    · have hkb : k < b.size := by omega
      have hx := HB.out.1.at k hkb
      have hks : k < f.length := by rw [HB.out.2]; exact hkn
      obtain ⟨ch, hch⟩ : ∃ ch, f.getD k 0 = ch := ⟨_, rfl⟩
      rw [hch] at hx
      obtain ⟨c, hcc⟩ : ∃ c : Nat, ch.toNat = c := ⟨_, rfl⟩
      rw [hcc] at hx
      have hki : (k : Int) < (n : Int) := by omega
      have hk0 : (0 : Int) ≤ (k : Int) := by omega
      have HA := Lib.hid (And.intro hall (And.intro hB (And.intro hch (And.intro hcc hks))))
      clear hall hB hch hcc hks
      by_cases h77 : c = 77
      · subst h77
        go_wp2
        go_ret
        refine ⟨?_, HA.out.2.1⟩
        have e : ch = 77 := UInt8.toNat_inj.1 HA.out.2.2.2.1
        have : f.contains 77 = true := by
          rw [List.contains_iff_mem, ← e, ← HA.out.2.2.1]
          exact getD_memB HA.out.2.2.2.2
        unfold ifM
        rw [if_pos this]
        rfl
      · have hci : ¬ (c : Int) = 77 := by omega
        go_wp2
        go_roundw
        case rel =>
          refine ⟨k + 1, by omega, by go_num, fun j hj => ?_, HA.out.2.1⟩
          by_cases c1 : j < k
          · exact HA.out.1 j c1
          · obtain rfl : j = k := by omega
            rw [HA.out.2.2.1]
            intro e
            rw [e] at HA
            exact h77 HA.out.2.2.2.1.symm
        case measure => simp [intOf]; omega
    · obtain rfl : k = n := by omega
      have hki : ¬ (k : Int) < (k : Int) := by omega
      have HF := Lib.hid (And.intro hall hB)
      clear hB hall
      go_wp2
      go_ret
      refine ⟨?_, HF.out.2⟩
      have : ¬ f.contains 77 = true := by
        rw [List.contains_iff_mem]
        intro q
        obtain ⟨j, hj, e⟩ := List.getElem_of_mem q
        exact HF.out.1 j (by rw [← HB.out.2]; exact hj) (by rw [List.getD_eq_getElem?_getD, List.getElem?_eq_getElem hj]; exact e)
      unfold ifM
      rw [if_neg this]
      rfl
theorem nm_apart : (List.range 28).all (fun j => (List.range j).all fun i => !((nmS i).toList == (nmS j).toList)) = true := by decide +kernel
theorem r4_op (j : Nat) (hj : j < 28) (w : World) :
    Calls Tryz.prog 139 #[str (nmB j)] w fun e w' => e = .returned (.int .i64 (j : Int)) ∧ Below w.heap.size w w' := by
  rw [str_ba, ← nm_ba]
  have hne : ∀ i, i < j → ((nmS i).toList == (nmS j).toList) = false := fun i hi => by
    have := List.all_eq_true.1 (List.all_eq_true.1 nm_apart j (List.mem_range.2 hj)) i (List.mem_range.2 hi)
    simpa using this
  have hself : ((nmS j).toList == (nmS j).toList) = true := by simp
  have cN := fun (i : Nat) (hi : i < 28) (W : World) => refName_in i hi W
  have HN := Lib.hid (And.intro hne (And.intro hself cN))
  clear hne hself cN
  go_enter Tryz.func139, Tryz.ntmps139
  go_wp2_with fail
  go_loopw [3] (fun v3 wr => ∃ k : Nat, k ≤ j ∧ v3 = .int .i64 k ∧ Below w.heap.size w wr) (fun v3 _ => j + 1 - (intOf v3).toNat)
  case atStart => exact ⟨0, Nat.zero_le _, rfl, Below.refl _ _⟩
  case round =>
    obtain ⟨k, hk, rfl, hB⟩ := hrel
    have hki : (k : Int) < 28 := by omega
    have hk0 : (0 : Int) ≤ (k : Int) := by omega
    have cK := HN.out.2.2 k (by omega) wr
    have HBB := Lib.hid hB
    clear hB
    go_wp2_with fail
    refine cK.mono ?_
    rintro e W2 ⟨rfl, hB2⟩
    have HB2 := Lib.hid (HBB.out.trans (hB2.mono HBB.out.size))
    clear cK hB2
    by_cases hkj : k < j
    · have hne := HN.out.1 k hkj
      go_wp2
      go_roundw
      case rel => exact ⟨k + 1, by omega, by go_num, HB2.out⟩
      case measure => simp [intOf]; omega
    · obtain rfl : k = j := by omega
      have hs := HN.out.2.1
      go_wp2
      go_ret
      exact ⟨rfl, HB2.out⟩
theorem ba_loop (b : ByteArray) : ∀ (n i : Nat) (r : List UInt8), b.size - i = n → ByteArray.toList.loop b i r = r.reverse ++ b.data.toList.drop i := by
  intro n
  induction n with
  | zero =>
    intro i r h
    rw [ByteArray.toList.loop, if_neg (by omega)]
    have h2 : b.data.toList.length = b.size := rfl
    have : b.data.toList.drop i = [] := List.drop_eq_nil_of_le (by omega)
    rw [this, List.append_nil]
  | succ n ih =>
    intro i r h
    rw [ByteArray.toList.loop, if_pos (by omega), ih (i+1) _ (by omega)]
    have h2 : b.data.toList.length = b.size := rfl
    have hi : i < b.data.toList.length := by omega
    have hi2 : i < b.data.size := hi
    rw [List.drop_eq_getElem_cons hi, List.reverse_cons, List.append_assoc]
    have e : b.get! i = b.data.toList[i] := by
      show b.data[i]! = _
      rw [getElem!_pos b.data i hi2]
      rfl
    rw [e]
    rfl
theorem ba_toList (s : List UInt8) : (ba s).toList = s := by
  unfold ByteArray.toList
  rw [ba_loop _ _ 0 [] rfl]; rfl
set_option maxHeartbeats 1000000 in
theorem r4_address (m : Nat) (hm : m ≤ 4294967295) (w : World) :
    Calls Tryz.prog 143 #[str (91 :: (numL m ++ [93]))] w fun e w' => e = .returned (.tuple #[.int .i64 8, .int .i64 (m : Int)]) ∧ Below w.heap.size w w' := by
  have cN : ∀ w, Calls Tryz.prog 144 #[.string (ba (numL m))] w fun e w' => e = .returned (.int .i64 (m : Int)) ∧ Below w.heap.size w w' := fun w => by
    have := r4_number (numL m) (numL_pos m) (numL_ten hm) (numL_dig m) (numL_head m) (by rw [valL_num]; exact hm) w
    rw [valL_num] at this
    exact this
  have hl := numL_ten hm
  have hp := numL_pos m
  have hd := numL_dig m
  rw [str_ba]
  generalize numL m = d at cN hl hp hd ⊢
  obtain ⟨q, hq⟩ : ∃ q, d.length = q := ⟨_, rfl⟩
  obtain ⟨b, hb⟩ : ∃ b, Bs b (91 :: (d ++ [93])) (q + 2) := ⟨_, rfl, by simp; omega⟩
  obtain ⟨bd, hbd⟩ : ∃ bd, Bs bd d q := ⟨_, rfl, hq⟩
  rw [← hb.eq]
  rw [← hbd.eq] at cN
  have hn := hb.size
  have hz0 : 0 < b.size := by omega
  have hz1 : q + 1 < b.size := by omega
  have hx0 := hb.at 0 hz0
  have hx1 := hb.at (q + 1) hz1
  have e1 : (91 :: (d ++ [93])).getD (q + 1) 0 = 93 := by rw [← hq]; simp [List.getD_eq_getElem?_getD]
  rw [e1] at hx1
  have hx : b.extract 1 (q + 1) = bd := by rw [hb.eq, hbd.eq, ba_ext_]; congr 1; rw [← hq]; simp
  have hdb := hbd.size
  rw [hq] at hl hp
  have HD := Lib.hid (And.intro hd (And.intro hq hbd))
  have hn1 : decide ((q : Int) + 2 < 3) = false := decide_eq_false (by omega)
  have hq10 : (q : Int) ≤ 10 := by omega
  have hq1 : (1 : Int) ≤ (q : Int) := by omega
  clear hd hq e1 hbd hb
  go_enter Tryz.func143, Tryz.ntmps143
  go_wp2_with fail
  try rw [hx]
  go_loopw [4] (fun v4 wr => ∃ k : Nat, k ≤ q ∧ v4 = .int .i64 k ∧ Below w.heap.size w wr) (fun v4 _ => q - (intOf v4).toNat)
  case atStart => exact ⟨0, Nat.zero_le _, rfl, Below.refl _ _⟩
  case round =>
    obtain ⟨k, hk, rfl, hB⟩ := hrel
    have hk0 : (0 : Int) ≤ (k : Int) := by omega
    by_cases hkq : k < q
    · have hki : (k : Int) < (q : Int) := by omega
      have hkb : k < bd.size := by omega
      have hxk := HD.out.2.2.at k hkb
      obtain ⟨c, hc⟩ : ∃ c : Nat, (d.getD k 0).toNat = c := ⟨_, rfl⟩
      have hcd := of_decide_eq_true (HD.out.1 _ (getD_memB (by rw [HD.out.2.1]; exact hkq)))
      rw [hc] at hxk hcd
      have hc43 : ¬ (c : Int) = 43 := by omega
      have HBB := Lib.hid hB
      clear hc hcd hB
      go_wp2
      go_roundw
      case rel => exact ⟨k + 1, by omega, by go_num, HBB.out⟩
      case measure => simp [intOf]; omega
    · obtain rfl : k = q := by omega
      have hki : ¬ (k : Int) < (k : Int) := by omega
      have HBB := Lib.hid hB
      clear hB
      go_wp2_with fail
      refine (cN _).mono ?_
      rintro e W2 ⟨rfl, hB2⟩
      have HF := Lib.hid (HBB.out.trans (hB2.mono HBB.out.size))
      clear cN hB2
      go_wp2
      go_ret2
      exact ⟨rfl, HF.out⟩
theorem str_info : (Tryz.prog.info? 9).map (fun i => (i.zero, i.size, i.bytes)) = some (some (.string ⟨#[]⟩), 1, 16) := by kernel_rfl
def Sp (by_ : UInt8) (s : List UInt8) (L : List (List UInt8)) (f k : Nat) : Prop := L ++ (splitL by_ (s.drop k)).modifyHead (((s.take k).drop f) ++ ·) = splitL by_ s
theorem Sp.start (by_ : UInt8) (s : List UInt8) : Sp by_ s [] 0 0 := by
  unfold Sp
  cases q : splitL by_ s with
  | nil => exact absurd q (splitL_ne _ _)
  | cons a l => simp [q, List.modifyHead]
theorem Sp.hit {by_ : UInt8} {s : List UInt8} {L : List (List UInt8)} {f k : Nat} (h : Sp by_ s L f k) (hk : k < s.length) (hc : s.getD k 0 = by_) : Sp by_ s (L ++ [(s.take k).drop f]) (k + 1) (k + 1) := by
  unfold Sp at h ⊢
  have e : s.drop k = by_ :: s.drop (k + 1) := by
    rw [List.drop_eq_getElem_cons hk, ← hc]
    simp [List.getD_eq_getElem?_getD, List.getElem?_eq_getElem hk]
  rw [e] at h
  have e2 : splitL by_ (by_ :: s.drop (k + 1)) = [] :: splitL by_ (s.drop (k + 1)) := if_pos rfl
  rw [e2] at h
  have e3 : (s.take (k + 1)).drop (k + 1) = [] := List.drop_eq_nil_of_le (by rw [List.length_take]; omega)
  rw [e3, ← h]
  cases q : splitL by_ (s.drop (k + 1)) with
  | nil => exact absurd q (splitL_ne _ _)
  | cons a l => simp [List.modifyHead]
theorem Sp.miss {by_ : UInt8} {s : List UInt8} {L : List (List UInt8)} {f k : Nat} (h : Sp by_ s L f k) (hf : f ≤ k) (hk : k < s.length) (hc : s.getD k 0 ≠ by_) : Sp by_ s L f (k + 1) := by
  unfold Sp at h ⊢
  have e : s.drop k = s.getD k 0 :: s.drop (k + 1) := by
    rw [List.drop_eq_getElem_cons hk]
    simp [List.getD_eq_getElem?_getD, List.getElem?_eq_getElem hk]
  rw [e] at h
  have e2 : splitL by_ (s.getD k 0 :: s.drop (k + 1)) = (splitL by_ (s.drop (k + 1))).modifyHead (s.getD k 0 :: ·) := if_neg hc
  rw [e2] at h
  have e3 : (s.take (k + 1)).drop f = (s.take k).drop f ++ [s.getD k 0] := by
    rw [takeB_snoc hk, List.drop_append_of_le_length (by rw [List.length_take]; omega)]
  rw [e3, ← h]
  cases q : splitL by_ (s.drop (k + 1)) with
  | nil => exact absurd q (splitL_ne _ _)
  | cons a l => simp [List.modifyHead]
theorem Sp.done {by_ : UInt8} {s : List UInt8} {L : List (List UInt8)} {f : Nat} (h : Sp by_ s L f s.length) : L ++ [s.drop f] = splitL by_ s := by
  unfold Sp at h
  rw [List.drop_length, List.take_length] at h
  rw [← h]
  simp [splitL, List.modifyHead]
set_option maxHeartbeats 2000000 in
theorem r4_split (by_ : UInt8) (s : List UInt8) (hs : s.length ≤ 1000000) (w : World) :
    Calls Tryz.prog 104 #[str s, .int .u8 (by_.toNat : Int)] w fun e w' => (∃ v, e = .returned v ∧ w'.ownsRow w.heap.size 9 1 v (splitL by_ s).length ((splitL by_ s).map str)) ∧ Below w.heap.size w w' := by
  rw [str_ba]
  obtain ⟨b, n, hb⟩ : ∃ b n, Bs b s n := ⟨_, _, Bs.of s⟩
  rw [← hb.eq]
  have hn := hb.size
  have hl := hb.len
  rw [hl] at hs
  obtain ⟨y, hy⟩ : ∃ y : Nat, by_.toNat = y := ⟨_, rfl⟩
  rw [hy]
  have HB := Lib.hid (And.intro hb (And.intro hl hy))
  have hnm : (n : Int) ≤ 1000000 := by omega
  clear hb hl hy
  go_enter Tryz.func104, Tryz.ntmps104
  go_wp2_with fail
  go_loopw [5, 6, 7] (fun v5 v6 v7 wr => ∃ (k f : Nat) (L : List (List UInt8)), k ≤ n ∧ f ≤ k ∧ L.length ≤ k ∧ v7 = .int .i64 k ∧ v6 = .int .i64 f ∧ Sp by_ s L f k ∧ wr.ownsRow w.heap.size 9 1 v5 L.length (L.map str) ∧ Below w.heap.size w wr) (fun _ _ v7 _ => n - (intOf v7).toNat)
  case atStart => exact ⟨0, 0, [], Nat.zero_le _, Nat.zero_le _, Nat.zero_le _, rfl, rfl, Sp.start _ _, ⟨rfl, .inl ⟨rfl, rfl⟩⟩, Below.refl _ _⟩
  case round =>
    obtain ⟨k, f, L, hk, hf, hL, rfl, rfl, hsp, hr, hB⟩ := hrel
    have hk0 : (0 : Int) ≤ (k : Int) := by omega
    have hf0 : (0 : Int) ≤ (f : Int) := by omega
    have hfk : (f : Int) ≤ (k : Int) := by omega
    have hkn2 : (k : Int) ≤ (n : Int) := by omega
    have hfb : f ≤ b.size := by omega
    have hkb2 : k ≤ b.size := by omega
    obtain ⟨i0, hi, hy0, hy1, hy2⟩ := info_parts str_info
    obtain ⟨A5, c5, rfl, _, _⟩ := own_cap hr
    obtain ⟨m, hm⟩ : ∃ m, L.length = m := ⟨_, rfl⟩
    rw [hm] at hr hL
    by_cases hkn : k < n
    · have hki : (k : Int) < (n : Int) := by omega
      have hkb : k < b.size := by omega
      have hx := HB.out.1.at k hkb
      obtain ⟨ch, hch⟩ : ∃ ch, s.getD k 0 = ch := ⟨_, rfl⟩
      rw [hch] at hx
      obtain ⟨c, hcc⟩ : ∃ c : Nat, ch.toNat = c := ⟨_, rfl⟩
      rw [hcc] at hx
      rw [hm]
      have HH := Lib.hid (And.intro hsp (And.intro hr (And.intro hB (And.intro hch (And.intro hcc hm)))))
      clear hsp hr hB hch hcc hm
      by_cases hcy : c = y
      · subst hcy
        go_wp2_with (at_builtin; refine wpList_append_own_at _ rfl (.tmp 19) (.tmp 24) 186 rfl w.heap.size 9 i0 _ 1 16 Tryz.underlying186 hi hy0 hy1 hy2 rfl (by decide) _ _ _ rfl (HH.out.2.1.alloc _) ⟨wr.heap.size, 0, none⟩ 1 1 [.string (b.extract f k)] rfl rfl (cell_one_new _ _ _) (by simp [Value.oneCell']) (by unfold maxLen; omega) (by omega) (Nat.le_trans HH.out.2.2.1.size (by simp)) ?_; intro v' w5 own5 hg5 hx5 hnew)
        have HG := Lib.hid hg5
        clear hg5 hx5 hnew
        go_roundw
        case rel =>
          refine ⟨k + 1, k + 1, L ++ [(s.take k).drop f], by omega, Nat.le_refl _, by rw [List.length_append, HH.out.2.2.2.2.2]; simp; omega, by go_num, by go_num, ?_, ?_, ?_⟩
          · have e := UInt8.toNat_inj.1 (HH.out.2.2.2.2.1.trans HB.out.2.2.symm)
            exact HH.out.1.hit (by rw [HB.out.2.1]; exact hkn) (HH.out.2.2.2.1.trans e)
          · have e1 : (L ++ [(s.take k).drop f]).length = m + 1 := by rw [List.length_append, HH.out.2.2.2.2.2]; rfl
            have e2 : (L ++ [(s.take k).drop f]).map str = L.map str ++ [.string (b.extract f k)] := by
              rw [List.map_append, HB.out.1.eq, ba_ext_]; rfl
            rw [e1, e2]
            exact own5
          · exact below_own (HH.out.2.2.1.alloc HH.out.2.2.1.size _) (HH.out.2.1.alloc _) HG.out (Nat.le_refl _) (Nat.le_refl _)
        case measure => simp [intOf]; omega
      · have hcyi : ¬ (c : Int) = (y : Int) := by omega
        go_wp2
        go_roundw
        case rel =>
          refine ⟨k + 1, f, L, by omega, by omega, by rw [HH.out.2.2.2.2.2]; omega, by go_num, rfl, ?_, ?_, HH.out.2.2.1⟩
          · refine HH.out.1.miss hf (by rw [HB.out.2.1]; exact hkn) (fun e => hcy ?_)
            rw [← HH.out.2.2.2.2.1, ← HH.out.2.2.2.1, e]
            exact HB.out.2.2
          · rw [HH.out.2.2.2.2.2]
            exact HH.out.2.1
        case measure => simp [intOf]; omega
    · obtain rfl : k = n := by omega
      have hki : ¬ (k : Int) < (k : Int) := by omega
      rw [hm]
      have HH := Lib.hid (And.intro hsp (And.intro hr (And.intro hB hm)))
      clear hsp hr hB hm
      go_wp2_with (at_builtin; refine wpList_append_own_at _ rfl (.tmp 28) (.tmp 32) 186 rfl w.heap.size 9 i0 _ 1 16 Tryz.underlying186 hi hy0 hy1 hy2 rfl (by decide) _ _ _ rfl (HH.out.2.1.alloc _) ⟨wr.heap.size, 0, none⟩ 1 1 [.string (b.extract f k)] rfl rfl (cell_one_new _ _ _) (by simp [Value.oneCell']) (by unfold maxLen; omega) (by omega) (Nat.le_trans HH.out.2.2.1.size (by simp)) ?_; intro v' w5 own5 hg5 hx5 hnew)
      have HG := Lib.hid hg5
      clear hg5 hx5 hnew
      go_ret
      refine ⟨⟨_, rfl, ?_⟩, below_own (HH.out.2.2.1.alloc HH.out.2.2.1.size _) (HH.out.2.1.alloc _) HG.out (Nat.le_refl _) (Nat.le_refl _)⟩
      have hsp := HH.out.1
      rw [← HB.out.2.1] at hsp
      have e0 := hsp.done
      have e1 : (splitL by_ s).length = m + 1 := by rw [← e0, List.length_append, HH.out.2.2.2]; rfl
      have e2 : (splitL by_ s).map str = L.map str ++ [.string (b.extract f k)] := by
        rw [← e0, List.map_append, HB.out.1.eq, ba_ext_, ← HB.out.2.1, List.take_length]; rfl
      rw [e1, e2]
      exact own5
def placeL (name : List UInt8) : List (List UInt8) → Nat → Int
  | [], _ => -1
  | x :: l, n => if x = [] then placeL name l n else if x = name ++ [58] then (n : Int) else if x.getLastD 0 = 58 then placeL name l n else placeL name l (n + 1)
theorem beq_listB (x y : List UInt8) : (x == y) = decide (x = y) := by
  by_cases h : x = y
  · subst h; simp
  · simp [h]
set_option maxHeartbeats 2000000 in
theorem r4_place (l : List (List UInt8)) (name : List UInt8) (hl : l.length ≤ 1000000) (hx : ∀ x ∈ l, x.length ≤ 1000000) (hnl : name.length ≤ 1000) (A : Option Addr) (cap : Nat) (w : World) (hsl : Sl w A l.length (fun i => str (l.getD i []))) :
    Calls Tryz.prog 106 #[.slice A l.length cap, str name] w fun e w' => e = .returned (.int .i64 (placeL name l 0)) ∧ Below w.heap.size w w' := by
  obtain ⟨m, hm⟩ : ∃ m, l.length = m := ⟨_, rfl⟩
  rw [hm] at hl hsl ⊢
  rw [str_ba]
  obtain ⟨bn, hbn⟩ : ∃ bn, Bs bn name name.length := ⟨_, Bs.of name⟩
  rw [← hbn.eq]
  have hns := hbn.size
  have HS := Lib.hid (And.intro hsl (And.intro hm (And.intro hbn hx)))
  have hml : (m : Int) ≤ 1000000 := by omega
  clear hsl hm hbn hx
  go_enter Tryz.func106, Tryz.ntmps106
  go_wp2_with fail
  go_loopw [5, 6] (fun v5 v6 wr => ∃ (k c : Nat), k ≤ m ∧ c ≤ k ∧ v6 = .int .i64 k ∧ v5 = .int .i64 c ∧ placeL name (l.drop k) c = placeL name l 0 ∧ Below w.heap.size w wr) (fun _ v6 _ => m - (intOf v6).toNat)
  case atStart => exact ⟨0, 0, Nat.zero_le _, Nat.zero_le _, rfl, rfl, rfl, Below.refl _ _⟩
  case round =>
    obtain ⟨k, c, hk, hc, rfl, rfl, hp, hB⟩ := hrel
    have hk0 : (0 : Int) ≤ (k : Int) := by omega
    have hc0 : (0 : Int) ≤ (c : Int) := by omega
    have hcm : (c : Int) ≤ 1000000 := by omega
    by_cases hkm : k < m
    · have hki : (k : Int) < (m : Int) := by omega
      obtain ⟨g, o, rfl, hg, hcell⟩ := HS.out.1 (by omega)
      have hkl : k < l.length := by rw [HS.out.2.1]; exact hkm
      obtain ⟨x, hxe⟩ : ∃ x, l.getD k [] = x := ⟨_, rfl⟩
      have hdrop : l.drop k = x :: l.drop (k + 1) := by
        rw [List.drop_eq_getElem_cons hkl, ← hxe]
        simp [List.getD_eq_getElem?_getD, List.getElem?_eq_getElem hkl]
      have hxm : x ∈ l := by rw [← hxe, List.getD_eq_getElem?_getD, List.getElem?_eq_getElem hkl]; exact List.getElem_mem hkl
      have hx := HS.out.2.2.2 x hxm
      rw [hdrop] at hp
      have c5 : wr.cell? ⟨g, o + k, none⟩ = some (str x) := by
        have := keepAt hB hg (hcell k hkm)
        rw [this]
        show some (str (l.getD k [])) = _
        rw [hxe]
      rw [str_ba] at c5
      obtain ⟨bx, hbx⟩ : ∃ bx, Bs bx x x.length := ⟨_, Bs.of x⟩
      rw [← hbx.eq] at c5
      obtain ⟨q, hq⟩ : ∃ q, x.length = q := ⟨_, rfl⟩
      rw [hq] at hbx hx
      have hxs := hbx.size
      have hq63 : (q : Int) ≤ 1000000 := by omega
      have t1 : bx.toList = x := by rw [hbx.eq, ba_toList]
      have t2 : (bn ++ (⟨#[58]⟩ : ByteArray)).toList = name ++ [58] := by
        rw [HS.out.2.2.1.eq, show (⟨#[58]⟩ : ByteArray) = ba [58] from rfl, ba_app, ba_toList]
      by_cases h1 : x = []
      · have f1 : bx.toList.isEmpty = true := by rw [t1, h1]; rfl
        have hp' : placeL name (l.drop (k + 1)) c = placeL name l 0 := by rw [← hp]; show _ = if x = [] then _ else _; rw [if_pos h1]
        have HP := Lib.hid (And.intro hp' hB)
        clear hp hB hbx hdrop hxe hcell hxm hg t1 t2 hp'
        go_wp2
        go_roundw
        case rel => exact ⟨k + 1, c, by omega, by omega, by go_num, rfl, HP.out.1, HP.out.2⟩
        case measure => simp [intOf]; omega
      · have f1 : bx.toList.isEmpty = false := by rw [t1]; cases x with
          | nil => exact absurd rfl h1
          | cons a t => rfl
        by_cases h2 : x = name ++ [58]
        · have f2 : (bx.toList == (bn ++ (⟨#[58]⟩ : ByteArray)).toList) = true := by rw [t1, t2, beq_listB]; exact decide_eq_true h2
          have hp' : placeL name l 0 = c := by rw [← hp]; show (if x = [] then _ else if x = name ++ [58] then (c : Int) else _) = _; rw [if_neg h1, if_pos h2]
          have HP := Lib.hid (And.intro hp' hB)
          clear hp hB hbx hdrop hxe hcell hxm hg t1 t2 hp'
          go_wp2
          go_ret
          exact ⟨by rw [HP.out.1]; rfl, HP.out.2⟩
        · have f2 : (bx.toList == (bn ++ (⟨#[58]⟩ : ByteArray)).toList) = false := by rw [t1, t2, beq_listB]; exact decide_eq_false h2
          have hq1 : 1 ≤ q := by
            rcases Nat.eq_zero_or_pos q with h | h
            · exact absurd (List.length_eq_zero_iff.1 (hq.trans h)) h1
            · exact h
          obtain ⟨q', hq'⟩ : ∃ q', q = q' + 1 := ⟨q - 1, by omega⟩
          subst hq'
          clear hq1
          have hx2 : q' ≤ 1000000 := by omega
          have hq62 : (q' : Int) ≤ 1000000 := by omega
          clear hx hq63
          have hqb : q' < bx.size := by omega
          have hxq := hbx.at q' hqb
          have hlast : x.getLastD 0 = x.getD q' 0 := by
            rw [List.getLastD_eq_getLast?, List.getLast?_eq_getElem?, hq, List.getD_eq_getElem?_getD]; rfl
          obtain ⟨ch, hch⟩ : ∃ ch, x.getD q' 0 = ch := ⟨_, rfl⟩
          rw [hch] at hxq hlast
          obtain ⟨d, hd⟩ : ∃ d : Nat, ch.toNat = d := ⟨_, rfl⟩
          rw [hd] at hxq
          have hq0 : (0 : Int) ≤ (q' : Int) := by omega
          by_cases h3 : d = 58
          · subst h3
            have e58 : ch = 58 := UInt8.toNat_inj.1 hd
            have hp' : placeL name (l.drop (k + 1)) c = placeL name l 0 := by
              rw [← hp]
              show _ = (if x = [] then _ else if x = name ++ [58] then (c : Int) else if x.getLastD 0 = 58 then _ else _)
              rw [if_neg h1, if_neg h2, if_pos (hlast.trans e58)]
            have HP := Lib.hid (And.intro hp' hB)
            clear hp hB hbx hdrop hxe hcell hxm hg t1 t2 hp' hlast hch hd e58 hq h1 h2
            go_wp2_with fail
            go_quiet (fail)
            go_wp2
            go_roundw
            case rel => exact ⟨k + 1, c, by omega, by omega, by go_num, rfl, HP.out.1, HP.out.2.trans ⟨rfl, rfl, rfl, Nat.le_refl _, fun _ _ => rfl⟩⟩
            case measure => simp [intOf]; omega
          · have hdi : ¬ (d : Int) = 58 := by omega
            have hp' : placeL name (l.drop (k + 1)) (c + 1) = placeL name l 0 := by
              rw [← hp]
              show _ = (if x = [] then _ else if x = name ++ [58] then (c : Int) else if x.getLastD 0 = 58 then _ else _)
              rw [if_neg h1, if_neg h2, if_neg (fun e => h3 (by rw [← hd, ← hlast, e]; rfl))]
            have HP := Lib.hid (And.intro hp' hB)
            clear hp hB hbx hdrop hxe hcell hxm hg t1 t2 hp' hlast hch hd hq h1 h2
            go_wp2_with fail
            go_quiet (fail)
            go_wp2
            go_roundw
            case rel => exact ⟨k + 1, c + 1, by omega, by omega, by go_num, by go_num, HP.out.1, HP.out.2.trans ⟨rfl, rfl, rfl, Nat.le_refl _, fun _ _ => rfl⟩⟩
            case measure => simp [intOf]; omega
    · obtain rfl : k = m := by omega
      have hki : ¬ (k : Int) < (k : Int) := by omega
      rw [← HS.out.2.1, List.drop_length] at hp
      have HF := Lib.hid (And.intro hp hB)
      clear hp hB
      go_wp2
      go_ret
      exact ⟨by rw [← HF.out.1]; rfl, HF.out.2⟩
theorem conv_one (d : Nat) (h : d < 10) (g : Nat) (W : World) (hc : W.cell? ⟨g, 0, none⟩ = some (.int .u8 (48 + (d : Int)))) : (convert 24 9 (.slice (some ⟨g, 0, none⟩) 1 1)).run Tryz.prog W = .ok (.string (ba [dig d])) W := by
  have := run_convert_bytes_arg (P := Tryz.prog) W 24 5 Tryz.underlying24 Tryz.underlying5 g 0 1 1 [48 + (d : Int)] rfl (fun i hi => by
    obtain rfl : i = 0 := by omega
    exact hc) 9 Tryz.underlying9
  rw [this]
  congr 2
set_option maxHeartbeats 1000000 in
theorem num_small (n : Nat) (h : n < 10) (w : World) : Calls Tryz.prog 61 #[.int .i64 (n : Int)] w fun e w' => e = .returned (str (numL n)) ∧ Below w.heap.size w w' := by
  rw [numL_lt h]
  have hni : (n : Int) < 10 := by omega
  have hn0 : (0 : Int) ≤ (n : Int) := by omega
  have hB := (Below.refl w.heap.size w).alloc (Nat.le_refl _) (.cells #[.int .u8 (48 + (n : Int))] 5)
  have hv := conv_one n h w.heap.size (w.alloc (.cells #[.int .u8 (48 + (n : Int))] 5)) (((Blk.new w 5 #[.int .u8 (48 + (n : Int))]).cell 0).trans rfl)
  go_enter Tryz.func61, Tryz.ntmps61
  go_wp2_with fail
  go_ret
  exact ⟨rfl, hB⟩
set_option maxHeartbeats 2000000 in
theorem r15_num : ∀ (n : Nat), n ≤ 4294967295 → ∀ (w : World), Calls Tryz.prog 61 #[.int .i64 (n : Int)] w fun e w' => e = .returned (str (numL n)) ∧ Below w.heap.size w w' := by
  intro n
  induction n using Nat.strongRecOn with
  | ind n ih =>
    intro hmax w
    by_cases h : n < 10
    · exact num_small n h w
    · obtain ⟨q, hq⟩ : ∃ q, n / 10 = q := ⟨_, rfl⟩
      obtain ⟨d, hd⟩ : ∃ d, n % 10 = d := ⟨_, rfl⟩
      have cQ := ih q (by omega) (by omega)
      have hd10 : d < 10 := by omega
      have e : numL n = numL q ++ [dig d] := by rw [numL_ge h, hq, hd]
      rw [e]
      have hni : ¬ (n : Int) < 10 := by omega
      have hn0 : (0 : Int) ≤ (n : Int) := by omega
      have hqi : (n : Int) / 10 = (q : Int) := by omega
      have hdi : (n : Int) % 10 = (d : Int) := by omega
      have hd0 : (0 : Int) ≤ (d : Int) := by omega
      have hd9 : (d : Int) ≤ 9 := by omega
      have hqm : (q : Int) ≤ 429496729 := by omega
      have hmaxi : (n : Int) ≤ 4294967295 := by omega
      have w1 : IntKind.i64.wrap (q : Int) = (q : Int) := IntWalk.i64_in _ (by omega)
      have w2 : (n : Int).tmod 10 = (d : Int) := by rw [Int.tmod_eq_emod_of_nonneg hn0]; exact hdi
      have w3 : IntKind.i64.wrap (48 + (d : Int)) = 48 + (d : Int) := IntWalk.i64_in _ (by omega)
      have w4 : IntKind.u8.wrap (48 + (d : Int)) = 48 + (d : Int) := IntWalk.u8_in _ (by omega)
      have w5 : (ba (numL q)).size + (ba [dig d]).size ≤ 9223372036854775807 := by
        rw [ba_size, ba_size]
        have := numL_ten (n := q) (by omega)
        simp; omega
      have hcv := conv_one d hd10
      have hap : ∀ (x : List UInt8), (Value.string (ba x ++ ba [dig d])) = str (x ++ [dig d]) := fun x => by rw [ba_app]; rfl
      have HQ := Lib.hid (And.intro cQ (And.intro hcv hap))
      generalize numL q = x at cQ HQ w5 ⊢
      clear ih e hq hd hcv hap cQ
      go_enter Tryz.func61, Tryz.ntmps61
      go_wp2_with fail
      refine startG (fun W' => Below w.drew.heap.size w.drew W') 10 (by kernel_rfl) ?_
      have hW0 : Below w.heap.size w w.drew := ⟨rfl, rfl, rfl, Nat.le_refl _, fun _ _ => rfl⟩
      generalize w.drew = W0 at hW0 ⊢
      have hS0 : Below W0.heap.size W0 W0 := Below.refl _ _
      refine takeG0 (i := 0) (v := .int .i64 (n : Int)) rfl (by kernel_rfl) (by kernel_rfl) (by kernel_rfl) (by kernel_rfl) (fun _ _ _ h => h) (Or.inl ⟨by rfl, fun W hW => by go_simp⟩) hS0 ?_
      simp only [Act.put, List.getElem_toArray, List.getElem_cons_zero, List.getElem_cons_succ, List.setIfInBounds_toArray, List.set_cons_zero, List.set_cons_succ]
      refine takeG0 (i := 1) (v := .int .i64 (q : Int)) rfl (by kernel_rfl) (by kernel_rfl) (by kernel_rfl) (by kernel_rfl) (fun _ _ _ h => h) (Or.inl ⟨by rfl, fun W hW => by go_simp⟩) hS0 ?_
      simp only [Act.put, List.getElem_toArray, List.getElem_cons_zero, List.getElem_cons_succ, List.setIfInBounds_toArray, List.set_cons_zero, List.set_cons_succ]
      refine takeG0 (i := 3) (v := .int .i64 (n : Int)) rfl (by kernel_rfl) (by kernel_rfl) (by kernel_rfl) (by kernel_rfl) (fun _ _ _ h => h) (Or.inl ⟨by rfl, fun W hW => by go_simp⟩) hS0 ?_
      simp only [Act.put, List.getElem_toArray, List.getElem_cons_zero, List.getElem_cons_succ, List.setIfInBounds_toArray, List.set_cons_zero, List.set_cons_succ]
      refine takeG0 (i := 4) (v := .int .i64 (d : Int)) rfl (by kernel_rfl) (by kernel_rfl) (by kernel_rfl) (by kernel_rfl) (fun _ _ _ h => h) (Or.inl ⟨by rfl, fun W hW => by go_simp⟩) hS0 ?_
      simp only [Act.put, List.getElem_toArray, List.getElem_cons_zero, List.getElem_cons_succ, List.setIfInBounds_toArray, List.set_cons_zero, List.set_cons_succ]
      refine takeG0 (i := 5) (v := .int .i64 (48 + (d : Int))) rfl (by kernel_rfl) (by kernel_rfl) (by kernel_rfl) (by kernel_rfl) (fun _ _ _ h => h) (Or.inl ⟨by rfl, fun W hW => by go_simp⟩) hS0 ?_
      simp only [Act.put, List.getElem_toArray, List.getElem_cons_zero, List.getElem_cons_succ, List.setIfInBounds_toArray, List.set_cons_zero, List.set_cons_succ]
      refine takeG0 (i := 6) (v := .int .u8 (48 + (d : Int))) rfl (by kernel_rfl) (by kernel_rfl) (by kernel_rfl) (by kernel_rfl) (fun _ _ _ h => h) (Or.inl ⟨by rfl, fun W hW => by go_simp⟩) hS0 ?_
      simp only [Act.put, List.getElem_toArray, List.getElem_cons_zero, List.getElem_cons_succ, List.setIfInBounds_toArray, List.set_cons_zero, List.set_cons_succ]
      refine manyG (rs := [2, 7]) (by kernel_rfl) (by simp) (AllG.cons (i := 2) rfl (fun K hK => ?_) (AllG.cons (i := 7) rfl (fun K hK => ?_) AllG.nil))
      · go_simp
        refine (HQ.out.1 W0).mono ?_
        rintro e W1 ⟨rfl, hB1⟩
        rw [str_ba]
        refine hK.out _ _ hB1 (fun _ => ?_)
        clear hK K
        refine onlyG (i := 7) (by kernel_rfl) rfl (fun K hK => ?_)
        go_simp
        have hal := step_below hB1 ((Below.refl W1.heap.size W1).alloc (Nat.le_refl _) (.cells #[.int .u8 (48 + (d : Int))] 5))
        have hc := ((Blk.new W1 5 #[.int .u8 (48 + (d : Int))]).cell 0).trans rfl
        obtain ⟨g, hg⟩ : ∃ g, W1.heap.size = g := ⟨_, rfl⟩
        rw [hg] at hc
        have hgl : g < (W1.alloc (.cells #[.int .u8 (48 + (d : Int))] 5)).heap.size := by rw [← hg]; simp
        generalize W1.alloc (.cells #[.int .u8 (48 + (d : Int))] 5) = W2 at hal hc hgl hK ⊢
        refine hK.out _ _ hal (fun _ => ?_)
        clear hK K hB1
        try rw [hg]
        clear hg
        refine onlyG (i := 8) (by kernel_rfl) rfl (fun K hK => ?_)
        have hcv := HQ.out.2.1 g W2 hc
        go_simp
        refine hK.out _ _ hal (fun _ => ?_)
        clear hK K hcv
        refine takeG0 (i := 9) (v := .string (ba x ++ ba [dig d])) rfl (by kernel_rfl) (by kernel_rfl) (by kernel_rfl) (by kernel_rfl) (fun _ _ _ h => h) (Or.inl ⟨by rfl, fun W hW => by go_simp⟩) hal ?_
        simp only [Act.put, List.getElem_toArray, List.getElem_cons_zero, List.getElem_cons_succ, List.setIfInBounds_toArray, List.set_cons_zero, List.set_cons_succ]
        refine lastG (by kernel_rfl) rfl (by kernel_rfl) (fun K hK => ?_)
        go_simp
        refine hK.out _ _ ?_
        clear hK K
        go_wp2
        go_ret
        exact ⟨congrArg Ending.returned (HQ.out.2.2 x), hW0.trans (hal.mono hW0.size)⟩
      · go_simp
        have hal := (Below.refl W0.heap.size W0).alloc (Nat.le_refl _) (.cells #[.int .u8 (48 + (d : Int))] 5)
        have hc := ((Blk.new W0 5 #[.int .u8 (48 + (d : Int))]).cell 0).trans rfl
        have hgl : W0.heap.size < (W0.alloc (.cells #[.int .u8 (48 + (d : Int))] 5)).heap.size := by simp
        refine hK.out _ _ hal (fun _ => ?_)
        clear hK K
        generalize hW2 : W0.alloc (.cells #[.int .u8 (48 + (d : Int))] 5) = W2 at hal hc hgl ⊢
        refine manyG (rs := [2, 8]) (by kernel_rfl) (by simp) (AllG.cons (i := 2) rfl (fun K hK => ?_) (AllG.cons (i := 8) rfl (fun K hK => ?_) AllG.nil))
        · go_simp
          refine (HQ.out.1 W2).mono ?_
          rintro e W3 ⟨rfl, hB3⟩
          rw [str_ba]
          have hal3 := step_below hal hB3
          have hc3 := keepAt hB3 hgl hc
          refine hK.out _ _ hal3 (fun _ => ?_)
          clear hK K
          refine onlyG (i := 8) (by kernel_rfl) rfl (fun K hK => ?_)
          have hcv := HQ.out.2.1 W0.heap.size W3 hc3
          go_simp
          refine hK.out _ _ hal3 (fun _ => ?_)
          clear hK K hcv
          refine takeG0 (i := 9) (v := .string (ba x ++ ba [dig d])) rfl (by kernel_rfl) (by kernel_rfl) (by kernel_rfl) (by kernel_rfl) (fun _ _ _ h => h) (Or.inl ⟨by rfl, fun W hW => by go_simp⟩) hal3 ?_
          simp only [Act.put, List.getElem_toArray, List.getElem_cons_zero, List.getElem_cons_succ, List.setIfInBounds_toArray, List.set_cons_zero, List.set_cons_succ]
          refine lastG (by kernel_rfl) rfl (by kernel_rfl) (fun K hK => ?_)
          go_simp
          refine hK.out _ _ ?_
          clear hK K
          go_wp2
          go_ret
          exact ⟨congrArg Ending.returned (HQ.out.2.2 x), hW0.trans (hal3.mono hW0.size)⟩
        · have hcv := HQ.out.2.1 W0.heap.size W2 hc
          go_simp
          refine hK.out _ _ hal (fun _ => ?_)
          clear hK K hcv
          refine onlyG (i := 2) (by kernel_rfl) rfl (fun K hK => ?_)
          go_simp
          refine (HQ.out.1 W2).mono ?_
          rintro e W3 ⟨rfl, hB3⟩
          rw [str_ba]
          have hal3 := step_below hal hB3
          refine hK.out _ _ hal3 (fun _ => ?_)
          clear hK K
          refine takeG0 (i := 9) (v := .string (ba x ++ ba [dig d])) rfl (by kernel_rfl) (by kernel_rfl) (by kernel_rfl) (by kernel_rfl) (fun _ _ _ h => h) (Or.inl ⟨by rfl, fun W hW => by go_simp⟩) hal3 ?_
          simp only [Act.put, List.getElem_toArray, List.getElem_cons_zero, List.getElem_cons_succ, List.setIfInBounds_toArray, List.set_cons_zero, List.set_cons_succ]
          refine lastG (by kernel_rfl) rfl (by kernel_rfl) (fun K hK => ?_)
          go_simp
          refine hK.out _ _ ?_
          clear hK K
          go_wp2
          go_ret
          exact ⟨congrArg Ending.returned (HQ.out.2.2 x), hW0.trans (hal3.mono hW0.size)⟩
def fillL (base t : Nat) : List UInt8 → List UInt8
  | [] => []
  | [c] => if c = 36 then numL (t + 1) else [c]
  | [c, d] => (if c = 36 then numL (t + 1) else [c]) ++ (if d = 36 then numL (t + 1) else [d])
  | c :: a :: e :: s => if c = 36 then numL (t + 1) ++ fillL base t (a :: e :: s) else if c = 91 ∧ 97 ≤ a.toNat ∧ a.toNat ≤ 113 ∧ e = 93 then 91 :: (numL (base + (a.toNat - 97)) ++ 93 :: fillL base t s) else c :: fillL base t (a :: e :: s)
theorem fillL_who (base t : Nat) (s : List UInt8) : fillL base t (36 :: s) = numL (t + 1) ++ fillL base t s := by
  match s with
  | [] => show (if (36 : UInt8) = 36 then _ else _) = _; rw [if_pos rfl]; simp [fillL]
  | [d] => show (if (36 : UInt8) = 36 then numL (t + 1) else [36]) ++ _ = _; rw [if_pos rfl]; rfl
  | a :: e :: s => show (if (36 : UInt8) = 36 then numL (t + 1) ++ _ else _) = _; rw [if_pos rfl]
theorem fillL_at (base t : Nat) (a : UInt8) (s : List UInt8) (h1 : 97 ≤ a.toNat) (h2 : a.toNat ≤ 113) : fillL base t (91 :: a :: 93 :: s) = 91 :: (numL (base + (a.toNat - 97)) ++ 93 :: fillL base t s) := by
  show (if (91 : UInt8) = 36 then _ else if (91 : UInt8) = 91 ∧ 97 ≤ a.toNat ∧ a.toNat ≤ 113 ∧ (93 : UInt8) = 93 then _ else _) = _
  rw [if_neg (by decide), if_pos ⟨rfl, h1, h2, rfl⟩]
theorem fillL_one (base t : Nat) (c : UInt8) (s : List UInt8) (h : c ≠ 36) (hn : ¬ (2 ≤ s.length ∧ c = 91 ∧ 97 ≤ (s.getD 0 0).toNat ∧ (s.getD 0 0).toNat ≤ 113 ∧ s.getD 1 0 = 93)) : fillL base t (c :: s) = c :: fillL base t s := by
  match s, hn with
  | [], _ => show (if c = 36 then _ else [c]) = _; rw [if_neg h]; rfl
  | [d], _ => show (if c = 36 then numL (t + 1) else [c]) ++ _ = _; rw [if_neg h]; rfl
  | a :: e :: s, hn =>
    show (if c = 36 then _ else if c = 91 ∧ 97 ≤ a.toNat ∧ a.toNat ≤ 113 ∧ e = 93 then _ else c :: fillL base t (a :: e :: s)) = _
    rw [if_neg h, if_neg (show ¬ (c = 91 ∧ 97 ≤ a.toNat ∧ a.toNat ≤ 113 ∧ e = 93) from fun q => hn ⟨by simp, q⟩)]
theorem getD_drop {s : List UInt8} {k : Nat} (j : Nat) : (s.drop k).getD j 0 = s.getD (k + j) 0 := by simp [List.getD_eq_getElem?_getD, List.getElem?_drop]
theorem drop_consB {s : List UInt8} {k : Nat} (hk : k < s.length) : s.drop k = s.getD k 0 :: s.drop (k + 1) := by
  rw [List.drop_eq_getElem_cons hk]
  simp [List.getD_eq_getElem?_getD, List.getElem?_eq_getElem hk]
set_option maxHeartbeats 4000000 in
theorem r15_fill (s : List UInt8) (base t : Nat) (hs : s.length ≤ 2000) (hb : base ≤ 4000000000) (ht : t ≤ 1000) (w : World) :
    Calls Tryz.prog 60 #[str s, .int .i64 (base : Int), .int .i64 (t : Int)] w fun e w' => e = .returned (str (fillL base t s)) ∧ Below w.heap.size w w' := by
  rw [str_ba]
  obtain ⟨b, n, hbs⟩ : ∃ b n, Bs b s n := ⟨_, _, Bs.of s⟩
  rw [← hbs.eq]
  have hn := hbs.size
  have hl := hbs.len
  rw [hl] at hs
  have cT := r15_num (t + 1) (by omega)
  have cA := fun (a : Nat) (ha : a ≤ 20) => r15_num (base + a) (by omega)
  have HB := Lib.hid (And.intro hbs (And.intro hl (And.intro cT cA)))
  have hni : (n : Int) ≤ 2000 := by omega
  have hti : (t : Int) ≤ 1000 := by omega
  have hbi : (base : Int) ≤ 4000000000 := by omega
  have hb0 : (0 : Int) ≤ (base : Int) := by omega
  have ht0 : (0 : Int) ≤ (t : Int) := by omega
  clear hbs hl cT cA
  go_enter Tryz.func60, Tryz.ntmps60
  go_wp2_with fail
  go_loopw [7, 8] (fun v7 v8 wr => ∃ (k : Nat) (out : List UInt8), k ≤ n ∧ out.length ≤ 10 * k ∧ v8 = .int .i64 k ∧ v7 = .string (ba out) ∧ out ++ fillL base t (s.drop k) = fillL base t s ∧ Below w.heap.size w wr) (fun _ v8 _ => n - (intOf v8).toNat)
  case atStart => exact ⟨0, [], Nat.zero_le _, Nat.zero_le _, rfl, rfl, rfl, Below.refl _ _⟩
  case round =>
    obtain ⟨k, out, hk, hol, rfl, rfl, hf, hB⟩ := hrel
    have hk0 : (0 : Int) ≤ (k : Int) := by omega
    have hko : (k : Int) ≤ (n : Int) := by omega
    by_cases hkn : k < n
    · have hki : (k : Int) < (n : Int) := by omega
      have hks : k < s.length := by rw [HB.out.2.1]; exact hkn
      have hkb : k < b.size := by omega
      have hx := HB.out.1.at k hkb
      rw [drop_consB hks] at hf
      obtain ⟨c, hc⟩ : ∃ c, s.getD k 0 = c := ⟨_, rfl⟩
      rw [hc] at hx hf
      obtain ⟨cn, hcn⟩ : ∃ cn : Nat, c.toNat = cn := ⟨_, rfl⟩
      rw [hcn] at hx
      have hob : (ba out).size ≤ 20000 := by rw [ba_size]; omega
      by_cases h36 : cn = 36
      · subst h36
        have e36 : c = 36 := UInt8.toNat_inj.1 hcn
        rw [e36, fillL_who] at hf
        have w5 : (ba out).size + (ba (numL (t + 1))).size ≤ 9223372036854775807 := by
          rw [ba_size (numL _)]
          have := numL_ten (n := t + 1) (by omega)
          omega
        have HP := Lib.hid (And.intro hf (And.intro hB (And.intro hol hob)))
        clear hf hB hol hob hc hcn e36
        go_wp2_with fail
        have cT : Calls Tryz.prog 61 #[.int .i64 ((t : Int) + 1)] wr fun e w' => e = .returned (str (numL (t + 1))) ∧ Below wr.heap.size wr w' := HB.out.2.2.1 wr
        refine cT.mono ?_
        rintro e W2 ⟨rfl, hB2⟩
        rw [str_ba]
        have HQ := Lib.hid (HP.out.2.1.trans (hB2.mono HP.out.2.1.size))
        clear cT hB2
        go_wp2
        go_roundw
        case rel =>
          refine ⟨k + 1, out ++ numL (t + 1), by omega, ?_, by go_num, ?_, ?_, HQ.out⟩
          · have := numL_ten (n := t + 1) (by omega)
            have := HP.out.2.2.1
            rw [List.length_append]; omega
          · rw [← ba_app]
          · rw [List.append_assoc]; exact HP.out.1
        case measure => simp [intOf]; omega
      · have hci : ((cn : Int) == 36) = false := by simp; omega
        have hc36 : c ≠ 36 := fun e => h36 (by rw [← hcn, e]; rfl)
        by_cases h2 : k + 2 < n
        · have f1 : decide ((k : Int) + 2 < (n : Int)) = true := decide_eq_true (by omega)
          have hk1s : k + 1 < s.length := by rw [HB.out.2.1]; omega
          have hk2s : k + 2 < s.length := by rw [HB.out.2.1]; omega
          have hk1b : k + 1 < b.size := by omega
          have hk2b : k + 2 < b.size := by omega
          have hx1 := HB.out.1.at (k + 1) hk1b
          have hx2 := HB.out.1.at (k + 2) hk2b
          obtain ⟨a, ha⟩ : ∃ a, s.getD (k + 1) 0 = a := ⟨_, rfl⟩
          obtain ⟨e, he⟩ : ∃ e, s.getD (k + 2) 0 = e := ⟨_, rfl⟩
          rw [ha] at hx1
          rw [he] at hx2
          obtain ⟨an, han⟩ : ∃ an : Nat, a.toNat = an := ⟨_, rfl⟩
          obtain ⟨en, hen⟩ : ∃ en : Nat, e.toNat = en := ⟨_, rfl⟩
          rw [han] at hx1
          rw [hen] at hx2
          have d0 : (s.drop (k + 1)).getD 0 0 = a := by rw [getD_drop]; exact ha
          have d1 : (s.drop (k + 1)).getD 1 0 = e := by rw [getD_drop]; exact he
          have han2 : an < 256 := by rw [← han]; exact a.toNat_lt
          by_cases h91 : cn = 91
          · have f2 : ((cn : Int) == 91) = true := by simp; omega
            by_cases h97 : 97 ≤ an
            · have f3 : decide ((97 : Int) ≤ (an : Int)) = true := decide_eq_true (by omega)
              by_cases h113 : an ≤ 113
              · have f4 : decide ((an : Int) ≤ 113) = true := decide_eq_true (by omega)
                by_cases h93 : en = 93
                · have f5 : ((en : Int) == 93) = true := by simp; omega
                  have ec : c = 91 := UInt8.toNat_inj.1 (hcn.trans h91)
                  have ee : e = 93 := UInt8.toNat_inj.1 (hen.trans h93)
                  obtain ⟨j, hj⟩ : ∃ j, an = 97 + j := ⟨an - 97, by omega⟩
                  have hd3 : s.drop (k + 1) = a :: 93 :: s.drop (k + 3) := by rw [drop_consB hk1s, ha, drop_consB hk2s, he, ee]
                  rw [hd3, ec, fillL_at base t a _ (by omega) (by omega), han, show an - 97 = j by omega] at hf
                  have cA := HB.out.2.2.2 j (by omega)
                  have hlen := numL_ten (n := base + j) (by omega)
                  have hj16 : (j : Int) ≤ 16 := by omega
                  have hj0 : (0 : Int) ≤ (j : Int) := by omega
                  have han3 : (an : Int) - 97 = (j : Int) := by omega
                  have w5 : (ba out).size + (⟨#[91]⟩ : ByteArray).size ≤ 9223372036854775807 := by
                    rw [show (⟨#[91]⟩ : ByteArray).size = 1 from rfl]; omega
                  have w6 : (ba out ++ (⟨#[91]⟩ : ByteArray)).size + (ba (numL (base + j))).size ≤ 9223372036854775807 := by
                    rw [show (⟨#[91]⟩ : ByteArray) = ba [91] from rfl, ba_app, ba_size, ba_size, List.length_append]; simp; omega
                  have w7 : ((ba out ++ (⟨#[91]⟩ : ByteArray)) ++ ba (numL (base + j))).size + (⟨#[93]⟩ : ByteArray).size ≤ 9223372036854775807 := by
                    rw [show (⟨#[91]⟩ : ByteArray) = ba [91] from rfl, show (⟨#[93]⟩ : ByteArray) = ba [93] from rfl, ba_app, ba_app, ba_size, ba_size, List.length_append, List.length_append]; simp; omega
                  have HP := Lib.hid (And.intro hf (And.intro hB (And.intro hol (And.intro hlen cA))))
                  clear hf hB hol hc hcn hc36 ha he han hen d0 d1 hd3 ec ee hlen cA hob hj
                  go_wp2_with fail
                  have cA : Calls Tryz.prog 61 #[.int .i64 ((base : Int) + (j : Int))] wr fun e w' => e = .returned (str (numL (base + j))) ∧ Below wr.heap.size wr w' := by
                    rw [← Int.natCast_add]; exact HP.out.2.2.2.2 wr
                  with_reducible refine cA.mono ?_
                  rintro e W2 ⟨rfl, hB2⟩
                  rw [str_ba]
                  have HQ := Lib.hid (HP.out.2.1.trans (hB2.mono HP.out.2.1.size))
                  clear hB2
                  go_wp2
                  go_roundw
                  case rel =>
                    refine ⟨k + 3, out ++ (91 :: (numL (base + j) ++ [93])), by omega, ?_, by go_num, ?_, ?_, HQ.out⟩
                    · have h1 := HP.out.2.2.1
                      have h2 := HP.out.2.2.2.1
                      rw [List.length_append]; simp; omega
                    · rw [show (⟨#[91]⟩ : ByteArray) = ba [91] from rfl, show (⟨#[93]⟩ : ByteArray) = ba [93] from rfl, ba_app, ba_app, ba_app]
                      simp
                    · rw [← HP.out.1]; simp
                  case measure => simp [intOf]; omega
                · have f5 : ((en : Int) == 93) = false := by simp; omega
                  have hone := fillL_one base t c (s.drop (k + 1)) hc36 (by rw [d0, d1]; exact fun q => h93 (by rw [← hen, q.2.2.2.2]; rfl))
                  rw [hone] at hf
                  have w5 : (ba out).size + (ba [c]).size ≤ 9223372036854775807 := by rw [ba_size [c]]; simp; omega
                  have hex : b.extract k (k + 1) = ba [c] := by
                    rw [HB.out.1.eq, ba_ext_, takeB_snoc hks, hc, List.drop_append_of_le_length (by rw [List.length_take]; omega), List.drop_eq_nil_of_le (by rw [List.length_take]; omega)]; rfl
                  have hk1 : k + 1 ≤ b.size := by omega
                  have HP := Lib.hid (And.intro hf (And.intro hB hol))
                  clear hf hB hol hone hc hcn hc36
                  go_wp2
                  go_roundw
                  case rel =>
                    refine ⟨k + 1, out ++ [c], by omega, ?_, by go_num, ?_, ?_, HP.out.2.1⟩
                    · have := HP.out.2.2
                      rw [List.length_append]; simp; omega
                    · rw [← ba_app]
                    · rw [List.append_assoc]; exact HP.out.1
                  case measure => simp [intOf]; omega
              · have f4 : decide ((an : Int) ≤ 113) = false := decide_eq_false (by omega)
                have hone := fillL_one base t c (s.drop (k + 1)) hc36 (by rw [d0, d1, han]; exact fun q => h113 q.2.2.2.1)
                rw [hone] at hf
                have w5 : (ba out).size + (ba [c]).size ≤ 9223372036854775807 := by rw [ba_size [c]]; simp; omega
                have hex : b.extract k (k + 1) = ba [c] := by
                  rw [HB.out.1.eq, ba_ext_, takeB_snoc hks, hc, List.drop_append_of_le_length (by rw [List.length_take]; omega), List.drop_eq_nil_of_le (by rw [List.length_take]; omega)]; rfl
                have hk1 : k + 1 ≤ b.size := by omega
                have HP := Lib.hid (And.intro hf (And.intro hB hol))
                clear hf hB hol hone hc hcn hc36
                go_wp2
                go_roundw
                case rel =>
                  refine ⟨k + 1, out ++ [c], by omega, ?_, by go_num, ?_, ?_, HP.out.2.1⟩
                  · have := HP.out.2.2
                    rw [List.length_append]; simp; omega
                  · rw [← ba_app]
                  · rw [List.append_assoc]; exact HP.out.1
                case measure => simp [intOf]; omega
            · have f3 : decide ((97 : Int) ≤ (an : Int)) = false := decide_eq_false (by omega)
              have hone := fillL_one base t c (s.drop (k + 1)) hc36 (by rw [d0, d1, han]; exact fun q => h97 q.2.2.1)
              rw [hone] at hf
              have w5 : (ba out).size + (ba [c]).size ≤ 9223372036854775807 := by rw [ba_size [c]]; simp; omega
              have hex : b.extract k (k + 1) = ba [c] := by
                rw [HB.out.1.eq, ba_ext_, takeB_snoc hks, hc, List.drop_append_of_le_length (by rw [List.length_take]; omega), List.drop_eq_nil_of_le (by rw [List.length_take]; omega)]; rfl
              have hk1 : k + 1 ≤ b.size := by omega
              have HP := Lib.hid (And.intro hf (And.intro hB hol))
              clear hf hB hol hone hc hcn hc36
              go_wp2
              go_roundw
              case rel =>
                refine ⟨k + 1, out ++ [c], by omega, ?_, by go_num, ?_, ?_, HP.out.2.1⟩
                · have := HP.out.2.2
                  rw [List.length_append]; simp; omega
                · rw [← ba_app]
                · rw [List.append_assoc]; exact HP.out.1
              case measure => simp [intOf]; omega
          · have f2 : ((cn : Int) == 91) = false := by simp; omega
            have hone := fillL_one base t c (s.drop (k + 1)) hc36 (fun q => h91 (by rw [← hcn, q.2.1]; rfl))
            rw [hone] at hf
            have w5 : (ba out).size + (ba [c]).size ≤ 9223372036854775807 := by rw [ba_size [c]]; simp; omega
            have hex : b.extract k (k + 1) = ba [c] := by
              rw [HB.out.1.eq, ba_ext_, takeB_snoc hks, hc, List.drop_append_of_le_length (by rw [List.length_take]; omega), List.drop_eq_nil_of_le (by rw [List.length_take]; omega)]; rfl
            have hk1 : k + 1 ≤ b.size := by omega
            have HP := Lib.hid (And.intro hf (And.intro hB hol))
            clear hf hB hol hone hc hcn hc36
            go_wp2
            go_roundw
            case rel =>
              refine ⟨k + 1, out ++ [c], by omega, ?_, by go_num, ?_, ?_, HP.out.2.1⟩
              · have := HP.out.2.2
                rw [List.length_append]; simp; omega
              · rw [← ba_app]
              · rw [List.append_assoc]; exact HP.out.1
            case measure => simp [intOf]; omega
        · have f1 : decide ((k : Int) + 2 < (n : Int)) = false := decide_eq_false (by omega)
          have hone := fillL_one base t c (s.drop (k + 1)) hc36 (fun q => by have := q.1; rw [List.length_drop, HB.out.2.1] at this; omega)
          rw [hone] at hf
          have w5 : (ba out).size + (ba [c]).size ≤ 9223372036854775807 := by rw [ba_size [c]]; simp; omega
          have hex : b.extract k (k + 1) = ba [c] := by
            rw [HB.out.1.eq, ba_ext_, takeB_snoc hks, hc, List.drop_append_of_le_length (by rw [List.length_take]; omega), List.drop_eq_nil_of_le (by rw [List.length_take]; omega)]; rfl
          have hk1 : k + 1 ≤ b.size := by omega
          have HP := Lib.hid (And.intro hf (And.intro hB hol))
          clear hf hB hol hone hc hcn hc36
          go_wp2
          go_roundw
          case rel =>
            refine ⟨k + 1, out ++ [c], by omega, ?_, by go_num, ?_, ?_, HP.out.2.1⟩
            · have := HP.out.2.2
              rw [List.length_append]; simp; omega
            · rw [← ba_app]
            · rw [List.append_assoc]; exact HP.out.1
          case measure => simp [intOf]; omega
    · obtain rfl : k = n := by omega
      have hki : ¬ (k : Int) < (k : Int) := by omega
      have e0 : s.drop k = [] := List.drop_eq_nil_of_le (by rw [HB.out.2.1]; exact Nat.le_refl _)
      rw [e0] at hf
      have hf' : out = fillL base t s := by rw [← hf]; simp [fillL]
      have HF := Lib.hid (And.intro hf' hB)
      clear hf hf' hB e0
      go_wp2
      go_ret
      exact ⟨by rw [← HF.out.1]; rfl, HF.out.2⟩
theorem r4_number_num (m : Nat) (hm : m ≤ 4294967295) (w : World) : Calls Tryz.prog 144 #[str (numL m)] w fun e w' => e = .returned (.int .i64 (m : Int)) ∧ Below w.heap.size w w' := by
  have := r4_number (numL m) (numL_pos m) (numL_ten hm) (numL_dig m) (numL_head m) (by rw [valL_num]; exact hm) w
  rw [valL_num] at this
  exact this
theorem Fits.len {fs : List UInt8} {ws : List Tk} (h : Fits fs ws) : fs.length = ws.length + ifM fs := by
  have e : ∀ (c : UInt8) (fs : List UInt8), c ≠ 77 → ifM (c :: fs) = ifM fs := fun c fs hc => by
    unfold ifM
    have : (c :: fs).contains 77 = fs.contains 77 := by
      rw [List.contains_cons, show ((77 : UInt8) == c) = false from by simpa using fun q => hc q.symm]; rfl
    rw [this]
  induction h with
  | nil => rfl
  | a r fs ws hr _ ih => rw [e _ _ (by decide), List.length_cons, List.length_cons, ih]; omega
  | b r fs ws hr _ ih => rw [e _ _ (by decide), List.length_cons, List.length_cons, ih]; omega
  | c r fs ws hr _ ih => rw [e _ _ (by decide), List.length_cons, List.length_cons, ih]; omega
  | k n _ => rfl
  | t s hs => rfl
  | m n _ => rfl
theorem fl_len (op : Nat) (h : op < 28) : (flB op).length ≤ 4 := by
  have := List.all_eq_true.1 (show (List.range 28).all (fun op => decide ((flB op).length ≤ 4)) = true by decide +kernel) op (List.mem_range.2 h)
  exact of_decide_eq_true this
theorem results_row_tmp_tmp {P : Program} {fn : Func} {p q r : Tmp} {ty : TypeId} (h : fn.results = #[.cell p ty, .tmp q, .tmp r]) (tmps : Array Value) (w : World) (g : Nat) (v : Value)
    (hp : tmps.getD p undef = .pointer (some ⟨g, 0, none⟩)) (hr : (loadVar ty ⟨g, 0, none⟩).run P w = .ok v w) :
    (results fn tmps).run P w = .ok (.tuple #[v, tmps.getD q undef, tmps.getD r undef]) w := by
  have hp' : tmps[p]?.getD undef = .pointer (some ⟨g, 0, none⟩) := by simpa using hp
  simp [results, h, hp', asAddr, hr]
theorem drop_inv {α : Type} {l : List α} {k : Nat} {a d : α} {t : List α} (h : l.drop k = a :: t) : k < l.length ∧ l.getD k d = a ∧ l.drop (k + 1) = t := by
  have hk : k < l.length := by
    rcases Nat.lt_or_ge k l.length with q | q
    · exact q
    · rw [List.drop_eq_nil_of_le q] at h; cases h
  rw [List.drop_eq_getElem_cons hk] at h
  injection h with h1 h2
  exact ⟨hk, by rw [List.getD_eq_getElem?_getD, List.getElem?_eq_getElem hk]; exact h1, h2⟩
theorem insR_info : (Tryz.prog.info? 75).map (·.size) = some 5 := by kernel_rfl
def insV (i : Ins) : Array Value := #[.int .i64 i.op, .int .i64 i.a, .int .i64 i.b, .int .i64 i.c, .int .u32 i.k]
theorem insV_one (i : Ins) : ((insV i).all fun x => x.oneCell') = true := by simp [insV, Value.oneCell']
set_option maxHeartbeats 8000000 in
theorem r4_read (op : Nat) (ws : List Tk) (h : (Ln.ins op ws).Ok) (hlen : (Ln.ins op ws).txt.length ≤ 1000000) (w : World) :
    Calls Tryz.prog 107 #[str (Ln.ins op ws).txt] w fun e w' => e = .returned (.tuple #[.agg (insV (accF ⟨(op : Int), 0, 0, 0, 0⟩ (flB op) ws)), str (labA [] ws), .int .i64 1]) ∧ Below w.heap.size w w' := by
  have hB0 := (Below.refl w.heap.size w).alloc (Nat.le_refl _) (.cells #[.int .i64 0, .int .i64 0, .int .i64 0, .int .i64 0, .int .u32 0] 75)
  have hR0 := Blk.new w 75 #[.int .i64 0, .int .i64 0, .int .i64 0, .int .i64 0, .int .u32 0]
  have cS := r4_split 32 (Ln.ins op ws).txt hlen (w.alloc (.cells #[.int .i64 0, .int .i64 0, .int .i64 0, .int .i64 0, .int .u32 0] 75))
  rw [words_split h] at cS
  have hop : (op : Int) < 28 := by have := h.1; omega
  have hfl := fl_len op h.1
  have hfit := h.2.len
  have cO := r4_op op h.1
  have cNm := refName_in op h.1
  rw [fl_ba] at cNm
  have cI := r4_ifmem (flB op) (by omega)
  obtain ⟨bf, nf, hbf⟩ : ∃ bf nf, Bs bf (flB op) nf := ⟨_, _, Bs.of _⟩
  rw [str_ba] at cI
  rw [← hbf.eq] at cI cNm
  have hbs := hbf.size
  rw [hbf.len] at hfl hfit
  obtain ⟨im, him⟩ : ∃ im, ifM (flB op) = im := ⟨_, rfl⟩
  rw [him] at hfit cI
  obtain ⟨L, hL⟩ : ∃ L, ws.length = L := ⟨_, rfl⟩
  rw [hL] at hfit
  have HL := Lib.hid (And.intro hbf (And.intro hL (And.intro him hfit)))
  have hnf4 : (nf : Int) ≤ 4 := by omega
  have hne : ((L : Int) + 1 != (nf : Int) + 1 - (im : Int)) = false := by simp; omega
  have hLi : (L : Int) ≤ 4 := by omega
  have hmi : (im : Int) ≤ 4 := by omega
  clear hbf him hfit hfl
  obtain ⟨rb, hrb⟩ : ∃ rb, w.heap.size = rb := ⟨_, rfl⟩
  have HC := Lib.hid (And.intro cO (And.intro cNm cI))
  have H0 := Lib.hid (And.intro hB0 (And.intro hR0 h))
  clear cO cNm cI hB0 hR0
  obtain ⟨tx, htx⟩ : ∃ tx, (Ln.ins op ws).txt = tx := ⟨_, rfl⟩
  rw [htx] at cS ⊢
  clear htx hlen h
  go_enter Tryz.func107, Tryz.ntmps107
  go_wp2_with fail
  refine cS.mono ?_
  rintro e W1 ⟨⟨v5, rfl, hown⟩, hB1⟩
  obtain ⟨A5, c5, e5, hle5, hs5⟩ := own_sl hown
  subst e5
  have hml : (nmB op :: ws.map Tk.txt).length = ws.length + 1 := by simp
  rw [hml, hL] at hs5
  rw [hml, hL]
  obtain ⟨g, o, rfl, hg, hcell⟩ := hs5 (by omega)
  have q0 : W1.cell? ⟨g, o, none⟩ = some (str (nmB op)) := (hcell 0 (by omega)).trans rfl
  have HW := Lib.hid (And.intro hg (And.intro hcell hB1))
  clear hown cS hs5 hg hcell hB1 hL hml hle5
  go_wp2_with fail
  refine (HC.out.1 _).mono ?_
  rintro e W2 ⟨rfl, hB2⟩
  have hI2 := Blk.new W2 75 #[.int .i64 (op : Int), .int .i64 0, .int .i64 0, .int .i64 0, .int .u32 0]
  have hal2 := (Below.refl W2.heap.size W2).alloc (Nat.le_refl _) (.cells #[.int .i64 (op : Int), .int .i64 0, .int .i64 0, .int .i64 0, .int .u32 0] 75)
  have i0 := (hI2.cell 0).trans rfl
  obtain ⟨ib, hib⟩ : ∃ ib, W2.heap.size = ib := ⟨_, rfl⟩
  rw [hib] at hI2 i0
  have HI2 := Lib.hid (And.intro hI2 (And.intro hB2 hal2))
  clear hI2 hB2 hal2 q0
  go_wp2_with fail
  try rw [hib]
  have hop0 : ¬ (op : Int) < 0 := by omega
  refine (HC.out.2.1 _).mono ?_
  rintro e W4 ⟨rfl, hB4⟩
  clear i0
  have HB4 := Lib.hid hB4
  clear hB4
  go_wp2_with fail
  refine (HC.out.2.2 _).mono ?_
  rintro e W5 ⟨rfl, hB5⟩
  have hI5 : Blk W5 ib 75 #[.int .i64 (op : Int), .int .i64 0, .int .i64 0, .int .i64 0, .int .u32 0] := (HI2.out.1.below HB4.out HI2.out.1.lt).below hB5 (HI2.out.1.below HB4.out HI2.out.1.lt).lt
  have hb15 : Below W1.heap.size W1 W5 := step_below (step_below (step_below HI2.out.2.1 HI2.out.2.2) HB4.out) hB5
  have HI5 := Lib.hid (And.intro hI5 hb15)
  clear hI5 hb15 hB5
  go_wp2_with fail
  -- LOOP
  obtain ⟨RR, hRR⟩ : ∃ RR, accF ⟨(op : Int), 0, 0, 0, 0⟩ (flB op) ws = RR := ⟨_, rfl⟩
  obtain ⟨LB, hLB⟩ : ∃ LB, labA [] ws = LB := ⟨_, rfl⟩
  have HRR := Lib.hid (And.intro hRR hLB)
  have hw1 : Below w.heap.size w W1 := step_below H0.out.1 HW.out.2.2
  have hr1 : Blk W1 rb 75 #[.int .i64 0, .int .i64 0, .int .i64 0, .int .i64 0, .int .u32 0] := by
    have := H0.out.2.1.below HW.out.2.2 H0.out.2.1.lt
    rw [hrb] at this
    exact this
  have hib1 : W1.heap.size ≤ ib := by rw [← hib]; exact HI2.out.2.1.size
  have HX := Lib.hid (And.intro hw1 (And.intro hr1 hib1))
  clear hRR hLB hw1 hr1 hib1
  go_loopw [9, 10, 11] (fun v9 v10 v11 wr => ∃ (k : Nat) (i : Ins) (lbl : List UInt8), k ≤ nf ∧ v11 = .int .i64 k ∧ v9 = .int .i64 ((k : Int) + 1) ∧ v10 = str lbl ∧ Fits ((flB op).drop k) (ws.drop k) ∧ accF i ((flB op).drop k) (ws.drop k) = RR ∧ labA lbl (ws.drop k) = LB ∧ (ws.drop k ≠ [] → lbl = []) ∧ Blk wr ib 75 (insV i) ∧ Below W1.heap.size W1 wr) (fun _ _ v11 _ => nf - (intOf v11).toNat)
  case atStart => exact ⟨0, ⟨(op : Int), 0, 0, 0, 0⟩, [], Nat.zero_le _, rfl, rfl, rfl, H0.out.2.2.2, HRR.out.1, HRR.out.2, fun _ => rfl, HI5.out.1, HI5.out.2⟩
  case round =>
    obtain ⟨k, i, lbl, hk, rfl, rfl, rfl, hft, hac, hla, hlb, hbi, hB⟩ := hrel
    have hk0 : (0 : Int) ≤ (k : Int) := by omega
    by_cases hkn : k < nf
    · have hki : (k : Int) < (nf : Int) := by omega
      have hkb : k < bf.size := by omega
      have hx := HL.out.1.at k hkb
      obtain ⟨F, hF⟩ : ∃ F, (flB op).drop k = F := ⟨_, rfl⟩
      obtain ⟨Ws, hWs⟩ : ∃ Ws, ws.drop k = Ws := ⟨_, rfl⟩
      rw [hF, hWs] at hft hac
      rw [hWs] at hla hlb
      have hFn : F ≠ [] := fun e => by
        have := congrArg List.length hF
        rw [List.length_drop, HL.out.1.len, e] at this
        simp at this; omega
      have word : ∀ (w0 : Tk) (t : List Tk), Ws = w0 :: t → wr.cell? ⟨g, o + (k + 1), none⟩ = some (str w0.txt) ∧ (k : Int) + 1 < (L : Int) + 1 ∧ ws.drop (k + 1) = t := fun w0 t e => by
        obtain ⟨q1, q2, q3⟩ := drop_inv (d := w0) (hWs.trans e)
        have q4 : k < L := by rw [← HL.out.2.1]; exact q1
        refine ⟨(keepAt hB HW.out.1 (HW.out.2.1 (k + 1) (by omega))).trans ?_, by omega, q3⟩
        have : ((nmB op :: ws.map Tk.txt).map str).getD (k + 1) undef = str w0.txt := by
          rw [← q2]
          simp [List.getD_eq_getElem?_getD, List.getElem?_eq_getElem q1]
        exact congrArg some this
      have fld : ∀ (f : UInt8) (t : List UInt8), F = f :: t → (flB op).getD k 0 = f ∧ (flB op).drop (k + 1) = t := fun f t e => (drop_inv (d := 0) (hF.trans e)).2
      clear hF hWs
      cases hft with
      | nil => exact absurd rfl hFn
      | a r fs wt hr hft' =>
        obtain ⟨w1, w2, w3⟩ := word _ _ rfl
        obtain ⟨f1, f2⟩ := fld _ _ rfl
        rw [f1] at hx
        have hac' : accF { i with a := (r : Int) } fs wt = RR := hac
        have hla' : labA lbl wt = LB := hla
        have cR := r4_register r hr wr
        have hr0 : ¬ (r : Int) < 0 := by omega
        have HP := Lib.hid (And.intro hft' (And.intro hac' (And.intro hla' (And.intro hbi (And.intro hB (And.intro w3 (And.intro f2 (hlb (by simp)))))))))
        clear hft' hac hla hac' hla' hbi hB w3 f1 f2 word fld hFn hlb
        have hx : (((bf[k]'hkb).toNat : Nat) : Int) = 65 := hx
        go_wp2_with fail
        refine cR.mono ?_
        rintro e W6 ⟨rfl, hB6⟩
        have hbi6 := HP.out.2.2.2.1.below hB6 HP.out.2.2.2.1.lt
        have hB16 := HP.out.2.2.2.2.1.trans (hB6.mono HP.out.2.2.2.2.1.size)
        have z1 := hbi6.cell 1
        have zf := hbi6.frozen 1
        have hset := hbi6.set_ 1 (.int .i64 (r : Int))
        have z1' : W6.cell? ⟨ib, 1, none⟩ = some (.int .i64 i.a) := z1.trans rfl
        have HQ := Lib.hid (And.intro hset hB16)
        clear cR hB6 hbi6 hB16 z1 hset
        go_wp2
        go_roundw
        case rel =>
          refine ⟨k + 1, { i with a := (r : Int) }, lbl, by omega, by go_num, by go_num, rfl, ?_, ?_, ?_, fun _ => HP.out.2.2.2.2.2.2.2, HQ.out.1, ?_⟩
          · rw [HP.out.2.2.2.2.2.1, HP.out.2.2.2.2.2.2.1]; exact HP.out.1
          · rw [HP.out.2.2.2.2.2.1, HP.out.2.2.2.2.2.2.1]; exact HP.out.2.1
          · rw [HP.out.2.2.2.2.2.1]; exact HP.out.2.2.1
          · exact Below.setCell HQ.out.2 (p := ⟨ib, 1, none⟩) HX.out.2.2 _
        case measure => simp [intOf]; omega
      | b r fs wt hr hft' =>
        obtain ⟨w1, w2, w3⟩ := word _ _ rfl
        obtain ⟨f1, f2⟩ := fld _ _ rfl
        rw [f1] at hx
        have hac' : accF { i with b := (r : Int) } fs wt = RR := hac
        have hla' : labA lbl wt = LB := hla
        have cR := r4_register r hr wr
        have hr0 : ¬ (r : Int) < 0 := by omega
        have HP := Lib.hid (And.intro hft' (And.intro hac' (And.intro hla' (And.intro hbi (And.intro hB (And.intro w3 (And.intro f2 (hlb (by simp)))))))))
        clear hft' hac hla hac' hla' hbi hB w3 f1 f2 word fld hFn hlb
        have hx : (((bf[k]'hkb).toNat : Nat) : Int) = 66 := hx
        go_wp2_with fail
        refine cR.mono ?_
        rintro e W6 ⟨rfl, hB6⟩
        have hbi6 := HP.out.2.2.2.1.below hB6 HP.out.2.2.2.1.lt
        have hB16 := HP.out.2.2.2.2.1.trans (hB6.mono HP.out.2.2.2.2.1.size)
        have z2 := hbi6.cell 2
        have zf := hbi6.frozen 2
        have hset := hbi6.set_ 2 (.int .i64 (r : Int))
        have z2' : W6.cell? ⟨ib, 2, none⟩ = some (.int .i64 i.b) := z2.trans rfl
        have HQ := Lib.hid (And.intro hset hB16)
        clear cR hB6 hbi6 hB16 z2 hset
        go_wp2
        go_roundw
        case rel =>
          refine ⟨k + 1, { i with b := (r : Int) }, lbl, by omega, by go_num, by go_num, rfl, ?_, ?_, ?_, fun _ => HP.out.2.2.2.2.2.2.2, HQ.out.1, ?_⟩
          · rw [HP.out.2.2.2.2.2.1, HP.out.2.2.2.2.2.2.1]; exact HP.out.1
          · rw [HP.out.2.2.2.2.2.1, HP.out.2.2.2.2.2.2.1]; exact HP.out.2.1
          · rw [HP.out.2.2.2.2.2.1]; exact HP.out.2.2.1
          · exact Below.setCell HQ.out.2 (p := ⟨ib, 2, none⟩) HX.out.2.2 _
        case measure => simp [intOf]; omega
      | c r fs wt hr hft' =>
        obtain ⟨w1, w2, w3⟩ := word _ _ rfl
        obtain ⟨f1, f2⟩ := fld _ _ rfl
        rw [f1] at hx
        have hac' : accF { i with c := (r : Int) } fs wt = RR := hac
        have hla' : labA lbl wt = LB := hla
        have cR := r4_register r hr wr
        have hr0 : ¬ (r : Int) < 0 := by omega
        have HP := Lib.hid (And.intro hft' (And.intro hac' (And.intro hla' (And.intro hbi (And.intro hB (And.intro w3 (And.intro f2 (hlb (by simp)))))))))
        clear hft' hac hla hac' hla' hbi hB w3 f1 f2 word fld hFn hlb
        have hx : (((bf[k]'hkb).toNat : Nat) : Int) = 67 := hx
        go_wp2_with fail
        refine cR.mono ?_
        rintro e W6 ⟨rfl, hB6⟩
        have hbi6 := HP.out.2.2.2.1.below hB6 HP.out.2.2.2.1.lt
        have hB16 := HP.out.2.2.2.2.1.trans (hB6.mono HP.out.2.2.2.2.1.size)
        have z3 := hbi6.cell 3
        have zf := hbi6.frozen 3
        have hset := hbi6.set_ 3 (.int .i64 (r : Int))
        have z3' : W6.cell? ⟨ib, 3, none⟩ = some (.int .i64 i.c) := z3.trans rfl
        have HQ := Lib.hid (And.intro hset hB16)
        clear cR hB6 hbi6 hB16 z3 hset
        go_wp2
        go_roundw
        case rel =>
          refine ⟨k + 1, { i with c := (r : Int) }, lbl, by omega, by go_num, by go_num, rfl, ?_, ?_, ?_, fun _ => HP.out.2.2.2.2.2.2.2, HQ.out.1, ?_⟩
          · rw [HP.out.2.2.2.2.2.1, HP.out.2.2.2.2.2.2.1]; exact HP.out.1
          · rw [HP.out.2.2.2.2.2.1, HP.out.2.2.2.2.2.2.1]; exact HP.out.2.1
          · rw [HP.out.2.2.2.2.2.1]; exact HP.out.2.2.1
          · exact Below.setCell HQ.out.2 (p := ⟨ib, 3, none⟩) HX.out.2.2 _
        case measure => simp [intOf]; omega
      | k m hm =>
        obtain ⟨w1, w2, w3⟩ := word _ _ rfl
        obtain ⟨f1, f2⟩ := fld _ _ rfl
        rw [f1] at hx
        have hac' : ({ i with k := (m : Int) } : Ins) = RR := hac
        have hla' : lbl = LB := hla
        have cR := r4_number_num m hm wr
        have hm0 : ¬ (m : Int) < 0 := by omega
        have hm1 : (0 : Int) ≤ (m : Int) := by omega
        have hm2 : (m : Int) ≤ 4294967295 := by omega
        have HP := Lib.hid (And.intro hac' (And.intro hla' (And.intro hbi (And.intro hB (And.intro w3 f2)))))
        clear hac hla hac' hla' hbi hB w3 f1 f2 word fld hFn hlb
        have hx : (((bf[k]'hkb).toNat : Nat) : Int) = 75 := hx
        go_wp2_with fail
        refine cR.mono ?_
        rintro e W6 ⟨rfl, hB6⟩
        have hbi6 := HP.out.2.2.1.below hB6 HP.out.2.2.1.lt
        have hB16 := HP.out.2.2.2.1.trans (hB6.mono HP.out.2.2.2.1.size)
        have zf := hbi6.frozen 4
        have hset := hbi6.set_ 4 (.int .u32 (m : Int))
        have z4 : W6.cell? ⟨ib, 4, none⟩ = some (.int .u32 i.k) := (hbi6.cell 4).trans rfl
        have HQ := Lib.hid (And.intro hset hB16)
        clear cR hB6 hbi6 hB16 hset
        go_wp2
        go_roundw
        case rel =>
          refine ⟨k + 1, { i with k := (m : Int) }, lbl, by omega, by go_num, by go_num, rfl, ?_, ?_, ?_, ?_, HQ.out.1, ?_⟩
          · rw [HP.out.2.2.2.2.1, HP.out.2.2.2.2.2]; exact .nil
          · rw [HP.out.2.2.2.2.1, HP.out.2.2.2.2.2]; exact HP.out.1
          · rw [HP.out.2.2.2.2.1]; exact HP.out.2.1
          · rw [HP.out.2.2.2.2.1]; exact fun q => absurd rfl q
          · exact Below.setCell HQ.out.2 (p := ⟨ib, 4, none⟩) HX.out.2.2 _
        case measure => simp [intOf]; omega
      | t s hs =>
        obtain ⟨w1, w2, w3⟩ := word _ _ rfl
        obtain ⟨f1, f2⟩ := fld _ _ rfl
        rw [f1] at hx
        have hac' : i = RR := hac
        have hla' : s = LB := hla
        have cNo := r4_number_no s hs
        have cNm := r4_name s hs
        have hs1 : 1 ≤ s.length := by
          unfold NmL at hs
          simp only [Bool.and_eq_true, decide_eq_true_eq] at hs
          exact hs.1.1.1
        have hs2 : s.length ≤ 20 := by
          unfold NmL at hs
          simp only [Bool.and_eq_true, decide_eq_true_eq] at hs
          exact hs.1.1.2
        replace w1 : wr.cell? ⟨g, o + (k + 1), none⟩ = some (.string (ba (64 :: s))) := w1
        obtain ⟨q, hq⟩ : ∃ q, (64 :: s).length = q := ⟨_, rfl⟩
        have hq' : q = s.length + 1 := by rw [← hq]; rfl
        obtain ⟨bw, hbw⟩ : ∃ bw, Bs bw (64 :: s) q := ⟨_, rfl, hq⟩
        rw [← hbw.eq] at w1
        have hbws := hbw.size
        have hb0 : 0 < bw.size := by omega
        have hxw := hbw.at 0 hb0
        have hxw : (((bw[0]'hb0).toNat : Nat) : Int) = 64 := hxw
        have hex : bw.extract 1 q = ba s := by rw [hbw.eq, ba_ext_, List.take_of_length_le (by rw [hq]; exact Nat.le_refl _)]; rfl
        rw [str_ba] at cNo cNm
        have hq3 : decide ((q : Int) < 2) = false := decide_eq_false (by omega)
        have hq4 : (q : Int) ≤ 21 := by omega
        have hq5 : (1 : Int) ≤ (q : Int) := by omega
        have HP := Lib.hid (And.intro hac' (And.intro hla' (And.intro hbi (And.intro hB (And.intro w3 f2)))))
        clear hac hla hac' hla' hbi hB w3 f1 f2 word fld hFn hlb hbw hq hq' hs1 hs2
        have hx : (((bf[k]'hkb).toNat : Nat) : Int) = 84 := hx
        go_wp2_with fail
        try rw [hex]
        refine (cNo _).mono ?_
        rintro e W6 ⟨rfl, hB6⟩
        have hbi6 := HP.out.2.2.1.below hB6 HP.out.2.2.1.lt
        have hB16 := HP.out.2.2.2.1.trans (hB6.mono HP.out.2.2.2.1.size)
        have HQ6 := Lib.hid (And.intro hbi6 hB16)
        clear hB6 hbi6 hB16 cNo
        go_wp2_with fail
        refine (cNm _).mono ?_
        rintro e W7 ⟨rfl, hB7⟩
        have hbi7 := HQ6.out.1.below hB7 HQ6.out.1.lt
        have hB17 := HQ6.out.2.trans (hB7.mono HQ6.out.2.size)
        have HQ := Lib.hid (And.intro hbi7 hB17)
        clear hB7 hbi7 hB17 cNm
        go_wp2
        go_roundw
        case rel =>
          refine ⟨k + 1, i, s, by omega, by go_num, by go_num, rfl, ?_, ?_, ?_, ?_, HQ.out.1, HQ.out.2⟩
          · rw [HP.out.2.2.2.2.1, HP.out.2.2.2.2.2]; exact .nil
          · rw [HP.out.2.2.2.2.1, HP.out.2.2.2.2.2]; exact HP.out.1
          · rw [HP.out.2.2.2.2.1]; exact HP.out.2.1
          · rw [HP.out.2.2.2.2.1]; exact fun q => absurd rfl q
        case measure => simp [intOf]; omega
      | m m hm =>
        obtain ⟨w1, w2, w3⟩ := word _ _ rfl
        obtain ⟨f1, f2⟩ := fld _ _ rfl
        rw [f1] at hx
        have hac' : ({ i with b := 8, k := (m : Int) } : Ins) = RR := hac
        have hla' : lbl = LB := hla
        have hl0 := hlb (by simp)
        have cR := r4_address m hm wr
        have hm0 : ¬ (m : Int) < 0 := by omega
        have hm1 : (0 : Int) ≤ (m : Int) := by omega
        have hm2 : (m : Int) ≤ 4294967295 := by omega
        have hm3 : decide ((m : Int) < 0) = false := decide_eq_false (by omega)
        have HP := Lib.hid (And.intro hac' (And.intro (hl0.symm.trans hla') (And.intro hbi hB)))
        clear hac hla hac' hla' hbi hB w3 f1 f2 word fld hFn hlb hl0
        have hx : (((bf[k]'hkb).toNat : Nat) : Int) = 77 := hx
        go_wp2_with fail
        refine cR.mono ?_
        rintro e W6 ⟨rfl, hB6⟩
        have hbi6 := HP.out.2.2.1.below hB6 HP.out.2.2.1.lt
        have hB16 := HP.out.2.2.2.trans (hB6.mono HP.out.2.2.2.size)
        have zf2 := hbi6.frozen 2
        have zf4 := (hbi6.set_ 2 (.int .i64 8)).frozen 4
        have z2 : W6.cell? ⟨ib, 2, none⟩ = some (.int .i64 i.b) := (hbi6.cell 2).trans rfl
        have hbi7 := (hbi6.set_ 2 (.int .i64 8))
        have z4 : (W6.setCell ⟨ib, 2, none⟩ (.int .i64 8)).cell? ⟨ib, 4, none⟩ = some (.int .u32 i.k) := (hbi7.cell 4).trans rfl
        have hbi8 := hbi7.set_ 4 (.int .u32 (m : Int))
        have hbi : Blk ((W6.setCell ⟨ib, 2, none⟩ (.int .i64 8)).setCell ⟨ib, 4, none⟩ (.int .u32 (m : Int))) ib 75 (insV RR) := by rw [← HP.out.1]; exact hbi8
        have hB8 := Below.setCell (Below.setCell hB16 (p := ⟨ib, 2, none⟩) HX.out.2.2 (.int .i64 8)) (p := ⟨ib, 4, none⟩) HX.out.2.2 (.int .u32 (m : Int))
        have hbr := HX.out.2.1.below hB8 HX.out.2.1.lt
        have HQ := Lib.hid (And.intro hB16 (HX.out.1.trans (hB8.mono HX.out.1.size)))
        have HF := Lib.hid HP.out.2.1.symm
        clear cR hB6 hbi6 hB16 hbi7 hbi8 hB8
        go_wp2_with (first | (refine wpList_load_rowG (by rfl) 75 (.tmp 6) rfl ib rfl 75 (insV RR) (0, 0) _ hbi Tryz.underlying75 rfl insR_info ?_) | (refine wpList_store_row rfl 75 (.tmp 2) (.tmp 101) rfl rb rfl (insV RR) rfl 75 _ hbr rfl insR_info (insV_one _) ?_; intro W9 hb9 hg9))
        have hb10 : Below w.heap.size w W9 := HQ.out.2.trans (below_of_grown HQ.out.2.size hg9 (fun g e => by cases e; omega))
        exact bodyPost_ret (results_row_tmp_tmp Tryz.results107 _ _ rb (.agg (insV RR)) rfl (run_row _ _ _ _ _ _ hb9 Tryz.underlying75 rfl insR_info)) rfl ⟨by rw [HRR.out.1, HRR.out.2, HF.out]; rfl, by first | exact hb10 | (rw [← hrb]; exact hb10)⟩
    · obtain rfl : k = nf := by omega
      have hki : ¬ (k : Int) < (k : Int) := by omega
      have e1 : (flB op).drop k = [] := List.drop_eq_nil_of_le (by rw [HL.out.1.len]; exact Nat.le_refl _)
      rw [e1] at hft hac
      obtain ⟨Ws, hWs⟩ : ∃ Ws, ws.drop k = Ws := ⟨_, rfl⟩
      rw [hWs] at hft hac hla
      cases hft with
      | nil =>
        have hac' : i = RR := hac
        have hla' : lbl = LB := hla
        subst hac'
        have hbr := HX.out.2.1.below hB HX.out.2.1.lt
        have HQ := Lib.hid (And.intro hB (HX.out.1.trans (hB.mono HX.out.1.size)))
        have HF := Lib.hid hla'.symm
        clear hac hla hla' hB hWs e1 hlb
        go_wp2_with (first | (refine wpList_load_rowG (by rfl) 75 (.tmp 6) rfl ib rfl 75 (insV i) (0, 0) _ hbi Tryz.underlying75 rfl insR_info ?_) | (refine wpList_store_row rfl 75 (.tmp 2) (.tmp 145) rfl rb rfl (insV i) rfl 75 _ hbr rfl insR_info (insV_one _) ?_; intro W9 hb9 hg9))
        have hb10 : Below w.heap.size w W9 := HQ.out.2.trans (below_of_grown HQ.out.2.size hg9 (fun g e => by cases e; omega))
        exact bodyPost_ret (results_row_tmp_tmp Tryz.results107 _ _ rb (.agg (insV i)) rfl (run_row _ _ _ _ _ _ hb9 Tryz.underlying75 rfl insR_info)) rfl ⟨by rw [HRR.out.1, HRR.out.2, HF.out]; rfl, by first | exact hb10 | (rw [← hrb]; exact hb10)⟩
end Go.Proofs.YtmhfpjnkjlhbpaaGreatDoor
