/- The document's reader of code as text: register, Number, Name, ifMem, op. -/
import Derived.Test.YtmhfpjnkjlhbpaaDoorTxt
import Derived.Test.YtmhfpjnkjlhbpaaDoorBldI
namespace Go.Proofs.YtmhfpjnkjlhbpaaDoor
open Go.ChangeShapes Go.WideShapes Go.ChangeAt Go.RowKit Go.Deep
set_option linter.unusedVariables false
set_option maxRecDepth 100000
set_option linter.unusedSimpArgs false

/-! ### strings as lists -/
def ba (s : List UInt8) : ByteArray := ⟨s.toArray⟩
theorem str_ba (s : List UInt8) : str s = .string (ba s) := rfl
theorem ba_size (s : List UInt8) : (ba s).size = s.length := by unfold ba; simp [ByteArray.size]
theorem ba_get (s : List UInt8) (k : Nat) (hk : k < (ba s).size) : ((((ba s)[k]'hk).toNat : Nat) : Int) = ((s.getD k 0).toNat : Int) := by
  have h : k < s.length := by rw [ba_size] at hk; exact hk
  have e : (ba s)[k]'hk = s[k]'h := rfl
  rw [e]
  simp [List.getD_eq_getElem?_getD, List.getElem?_eq_getElem h]
theorem ba_inj {s t : List UInt8} (h : ba s = ba t) : s = t := by
  have := congrArg (fun b : ByteArray => b.data.toList) h
  simpa [ba] using this
theorem ba_app (s t : List UInt8) : ba s ++ ba t = ba (s ++ t) := by
  apply ByteArray.ext
  simp [ba]
theorem ba_ext_ (s : List UInt8) (i j : Nat) : (ba s).extract i j = ba ((s.take j).drop i) := by
  apply ByteArray.ext
  simp [ba, List.drop_take]
theorem nm_ba (i : Nat) : nmS i = ba (nmB i) := by unfold nmB ba; rfl
theorem fl_ba (i : Nat) : flS i = ba (flB i) := by unfold flB ba; rfl

theorem r4_register (r : Nat) (hr : r < 8) (w : World) :
    Calls Tryd.prog 109 #[str [114, dig r]] w fun e w' => e = .returned (.int .i64 (r : Int)) ∧ Below w.heap.size w w' := by
  have hB := Below.refl w.heap.size w
  have e : str [114, dig r] = .string ⟨#[114, dig r]⟩ := rfl
  rw [e]
  rcases (by omega : r = 0 ∨ r = 1 ∨ r = 2 ∨ r = 3 ∨ r = 4 ∨ r = 5 ∨ r = 6 ∨ r = 7) with rfl | rfl | rfl | rfl | rfl | rfl | rfl | rfl
  all_goals
    unfold dig
    simp only [UInt8.reduceOfNat, Nat.reduceAdd]
    go_enter Tryd.func109, Tryd.ntmps109
    go_wp2
    go_ret
    exact ⟨by first | rfl | decide, hB⟩
theorem valL_lt : ∀ (r : List UInt8), (∀ c ∈ r, isDig c = true) → valL r.reverse < 10 ^ r.length
  | [], _ => by decide
  | c :: r, h => by
    have := valL_lt r (fun x hx => h x (List.mem_cons_of_mem _ hx))
    have hc := of_decide_eq_true (h c List.mem_cons_self)
    rw [List.reverse_cons, valL_snoc, List.length_cons, Nat.pow_succ]
    omega
theorem valL_ten {s : List UInt8} (hd : ∀ c ∈ s, isDig c = true) (hl : s.length ≤ 10) : valL s ≤ 9999999999 := by
  have := valL_lt s.reverse (fun c hc => hd c (List.mem_reverse.1 hc))
  rw [List.reverse_reverse, List.length_reverse] at this
  have h2 : 10 ^ s.length ≤ 10 ^ 10 := Nat.pow_le_pow_right (by decide) hl
  omega
theorem takeB_snoc {s : List UInt8} {k : Nat} (h : k < s.length) : s.take (k + 1) = s.take k ++ [s.getD k 0] := by
  rw [List.take_add_one, List.getElem?_eq_getElem h]
  simp [List.getD_eq_getElem?_getD, List.getElem?_eq_getElem h]
theorem getD_memB {s : List UInt8} {k : Nat} (h : k < s.length) : s.getD k 0 ∈ s := by
  rw [List.getD_eq_getElem?_getD, List.getElem?_eq_getElem h]; exact List.getElem_mem h
/-- A string's size, and its bytes. -/
structure Bs (b : ByteArray) (s : List UInt8) (n : Nat) : Prop where
  eq : b = ba s
  len : s.length = n
theorem Bs.of (s : List UInt8) : Bs (ba s) s s.length := ⟨rfl, rfl⟩
theorem Bs.size {b : ByteArray} {s : List UInt8} {n : Nat} (h : Bs b s n) : b.size = n := by rw [h.eq, ba_size, h.len]
theorem Bs.at {b : ByteArray} {s : List UInt8} {n : Nat} (h : Bs b s n) (k : Nat) (hk : k < b.size) : (((b[k]'hk).toNat : Nat) : Int) = ((s.getD k 0).toNat : Int) := by
  obtain ⟨rfl, _⟩ := h
  exact ba_get s k hk

set_option maxHeartbeats 1000000 in
theorem r4_number (s : List UInt8) (h1 : 1 ≤ s.length) (h2 : s.length ≤ 10) (hd : ∀ c ∈ s, isDig c = true) (h0 : 1 < s.length → s.headD 0 ≠ 48) (hv : valL s ≤ 4294967295) (w : World) :
    Calls Tryd.prog 111 #[str s] w fun e w' => e = .returned (.int .i64 (valL s : Nat)) ∧ Below w.heap.size w w' := by
  rw [str_ba]
  obtain ⟨b, n, hb⟩ : ∃ b n, Bs b s n := ⟨_, _, Bs.of s⟩
  rw [← hb.eq]
  have hn := hb.size
  have hl := hb.len
  have HB := Lib.hid hb
  rw [hl] at h1 h2 h0
  have hn1 : (1 : Int) ≤ (n : Int) := by omega
  have hn10 : (n : Int) ≤ 10 := by omega
  have hne0 : ((n : Int) == 0) = false := by simp; omega
  have hne1 : decide ((10 : Int) < (n : Int)) = false := decide_eq_false (by omega)
  have hz0 : 0 < b.size := by omega
  have hx0 := HB.out.at 0 hz0
  obtain ⟨c0, hc0⟩ : ∃ c0 : Int, ((s.getD 0 0).toNat : Int) = c0 := ⟨_, rfl⟩
  rw [hc0] at hx0
  have hc48 : 1 < n → c0 ≠ 48 := fun q e => h0 q (by
    have : (s.getD 0 0).toNat = 48 := by omega
    cases s with
    | nil => simp at hl; omega
    | cons a t =>
      show a = 48
      have h : a.toNat = 48 := this
      exact UInt8.toNat_inj.1 h)
  have HS := Lib.hid (And.intro hd (And.intro hv hl))
  clear hb hd h0 hv hl hc0
  rcases Decidable.em (1 < n) with h | h
  case' inl =>
    have hc1 : (c0 == 48) = false := by simpa using hc48 h
    have hni : (1 : Int) < (n : Int) := by omega
  case' inr =>
    have hni : ¬ (1 : Int) < (n : Int) := by omega
  all_goals
    clear hc48
    go_enter Tryd.func111, Tryd.ntmps111
    go_wp2_with fail
    go_loopw [3, 4] (fun v3 v4 wr => ∃ k : Nat, k ≤ n ∧ v4 = .int .i64 k ∧ v3 = .int .i64 ((valL (s.take k) : Nat) : Int) ∧ Below w.heap.size w wr) (fun v3 v4 _ => n - (intOf v4).toNat)
    case atStart => exact ⟨0, Nat.zero_le _, rfl, rfl, Below.refl _ _⟩
    case round =>
      obtain ⟨k, hk, rfl, rfl, hB⟩ := hrel
      by_cases hkn : k < n
      · have hks : k < s.length := by rw [HS.out.2.2]; exact hkn
        have hkb : k < b.size := by omega
        have hx := HB.out.at k hkb
        obtain ⟨c, hc⟩ : ∃ c : Nat, (s.getD k 0).toNat = c := ⟨_, rfl⟩
        rw [hc] at hx
        have hcd := of_decide_eq_true (HS.out.1 _ (getD_memB hks))
        rw [hc] at hcd
        have hc1' : ¬ (c : Int) < 48 := by omega
        have hc2' : (c : Int) ≤ 57 := by omega
        have hc3' : (48 : Int) ≤ (c : Int) := by omega
        have hki : (k : Int) < (n : Int) := by omega
        have hk0 : (0 : Int) ≤ (k : Int) := by omega
        have hvb : valL (s.take k) ≤ 9999999999 := valL_ten (fun x hx => HS.out.1 x (List.mem_of_mem_take hx)) (by rw [List.length_take]; omega)
        have hvs : valL (s.take (k + 1)) = 10 * valL (s.take k) + (c - 48) := by rw [takeB_snoc hks, valL_snoc, hc]
        obtain ⟨v, hv⟩ : ∃ v, valL (s.take k) = v := ⟨_, rfl⟩
        rw [hv] at hvb hvs ⊢
        have hv0 : (0 : Int) ≤ (v : Int) := by omega
        have hv1 : (v : Int) ≤ 9999999999 := by omega
        have HV := Lib.hid (And.intro hvs hB)
        clear hvs hv hcd hc hks hB
        go_wp2
        go_roundw
        case rel =>
          refine ⟨k + 1, by omega, by go_num, ?_, HV.out.2⟩
          rw [HV.out.1]
          congr 1
          omega
        case measure => simp [intOf]; omega
      · obtain rfl : k = n := by omega
        have hki : ¬ (k : Int) < (k : Int) := by omega
        have e : s.take k = s := List.take_of_length_le (by rw [HS.out.2.2]; exact Nat.le_refl _)
        rw [e]
        have hv := HS.out.2.1
        obtain ⟨v, hve⟩ : ∃ v, valL s = v := ⟨_, rfl⟩
        rw [hve] at hv ⊢
        have hv2 : ¬ (4294967295 : Int) < (v : Int) := by omega
        have HF := Lib.hid (And.intro hve hB)
        clear hB e hve
        go_wp2
        go_ret
        exact ⟨by rw [HF.out.1]; rfl, HF.out.2⟩
/-- A name is no number. -/
theorem r4_number_no (s : List UInt8) (hs : NmL s = true) (w : World) :
    Calls Tryd.prog 111 #[str s] w fun e w' => e = .returned (.int .i64 (-1)) ∧ Below w.heap.size w w' := by
  unfold NmL at hs
  simp only [Bool.and_eq_true, decide_eq_true_eq] at hs
  obtain ⟨⟨⟨h1, h2⟩, h3⟩, _⟩ := hs
  have hB := Below.refl w.heap.size w
  rw [str_ba]
  obtain ⟨b, n, hb⟩ : ∃ b n, Bs b s n := ⟨_, _, Bs.of s⟩
  rw [← hb.eq]
  have hn := hb.size
  have hl := hb.len
  rw [hl] at h1 h2
  have h3 := of_decide_eq_true h3
  have e0 : s.headD 0 = s.getD 0 0 := by cases s <;> rfl
  rw [e0] at h3
  have hz0 : 0 < b.size := by omega
  have hx0 := hb.at 0 hz0
  obtain ⟨c0, hc0⟩ : ∃ c0 : Nat, (s.getD 0 0).toNat = c0 := ⟨_, rfl⟩
  rw [hc0] at hx0 h3
  have hne0 : ((n : Int) == 0) = false := by simp; omega
  have hc1 : ((c0 : Int) == 48) = false := by simp; omega
  have hc2 : decide ((c0 : Int) < 48) = false := decide_eq_false (by omega)
  have hc3 : decide ((57 : Int) < (c0 : Int)) = true := decide_eq_true (by omega)
  have hn1 : (0 : Int) < (n : Int) := by omega
  clear hb hl hc0 e0
  by_cases h10 : n ≤ 10
  · have hne1 : decide ((10 : Int) < (n : Int)) = false := decide_eq_false (by omega)
    rcases Decidable.em (1 < n) with h | h
    case' inl => have hni : (1 : Int) < (n : Int) := by omega
    case' inr => have hni : ¬ (1 : Int) < (n : Int) := by omega
    all_goals
      go_enter Tryd.func111, Tryd.ntmps111
      go_wp2_with fail
      go_loopw [3, 4] (fun v3 v4 wr => v4 = .int .i64 0 ∧ v3 = .int .i64 0 ∧ wr = w) (fun v3 v4 _ => 0)
      case atStart => exact ⟨rfl, rfl, rfl⟩
      case round =>
        obtain ⟨rfl, rfl, rfl⟩ := hrel
        go_wp2
        go_ret
        exact ⟨rfl, hB⟩
  · have hne1 : decide ((10 : Int) < (n : Int)) = true := decide_eq_true (by omega)
    go_enter Tryd.func111, Tryd.ntmps111
    go_wp2
    go_ret
    exact ⟨rfl, hB⟩

set_option maxHeartbeats 1000000 in
theorem r4_name (s : List UInt8) (hs : NmL s = true) (w : World) :
    Calls Tryd.prog 72 #[str s] w fun e w' => e = .returned (.bool true) ∧ Below w.heap.size w w' := by
  unfold NmL at hs
  simp only [Bool.and_eq_true, decide_eq_true_eq, List.all_eq_true] at hs
  obtain ⟨⟨⟨h1, h2⟩, h3⟩, h4⟩ := hs
  rw [str_ba]
  obtain ⟨b, n, hb⟩ : ∃ b n, Bs b s n := ⟨_, _, Bs.of s⟩
  rw [← hb.eq]
  have hn := hb.size
  have hl := hb.len
  rw [hl] at h1 h2
  have e0 : s.headD 0 = s.getD 0 0 := by cases s <;> rfl
  rw [e0] at h3
  have HB := Lib.hid (And.intro hb (And.intro hl (And.intro h3 h4)))
  have hn1 : decide ((1 : Int) ≤ (n : Int)) = true := decide_eq_true (by omega)
  have hn2 : decide ((n : Int) ≤ 20) = true := decide_eq_true (by omega)
  have hn20 : (n : Int) ≤ 20 := by omega
  clear hb hl h3 h4 e0
  go_enter Tryd.func72, Tryd.ntmps72
  go_wp2_with fail
  go_loopw [3] (fun v3 wr => ∃ k : Nat, k ≤ n ∧ v3 = .int .i64 k ∧ Below w.heap.size w wr) (fun v3 _ => n - (intOf v3).toNat)
  case atStart => exact ⟨0, Nat.zero_le _, rfl, Below.refl _ _⟩
  case round =>
    obtain ⟨k, hk, rfl, hB⟩ := hrel
    by_cases hkn : k < n
    · have hkb : k < b.size := by omega
      have hx := HB.out.1.at k hkb
      have hks : k < s.length := by rw [HB.out.2.1]; exact hkn
      have hc := HB.out.2.2.2 _ (getD_memB hks)
      have h0 : k = 0 → isLet (s.getD k 0) = true := fun e => by rw [e]; exact HB.out.2.2.1
      generalize s.getD k 0 = ch at hx hc h0
      obtain ⟨c, hcc⟩ : ∃ c : Nat, ch.toNat = c := ⟨_, rfl⟩
      rw [hcc] at hx
      have hki : (k : Int) < (n : Int) := by omega
      have hk0 : (0 : Int) ≤ (k : Int) := by omega
      have hcase : (97 ≤ c ∧ c ≤ 122) ∨ (48 ≤ c ∧ c ≤ 57 ∧ k ≠ 0) := by
        unfold isLet isDig at hc
        unfold isLet at h0
        rw [hcc] at hc h0
        simp only [Bool.or_eq_true, decide_eq_true_eq] at hc h0
        rcases hc with q | q
        · exact .inl q
        · exact .inr ⟨q.1, q.2, fun e => by have := h0 e; omega⟩
      have HBB := Lib.hid hB
      clear hc h0 hcc hks hB
      rcases hcase with ⟨q1, q2⟩ | ⟨q1, q2, q3⟩
      case' inl =>
        have f1 : decide ((97 : Int) ≤ (c : Int)) = true := decide_eq_true (by omega)
        have f2 : decide ((c : Int) ≤ 122) = true := decide_eq_true (by omega)
        have f3 : decide ((48 : Int) ≤ (c : Int)) = true := decide_eq_true (by omega)
        have f4 : decide ((c : Int) ≤ 57) = false := decide_eq_false (by omega)
      case' inr =>
        have f1 : decide ((97 : Int) ≤ (c : Int)) = false := decide_eq_false (by omega)
        have f3 : decide ((48 : Int) ≤ (c : Int)) = true := decide_eq_true (by omega)
        have f4 : decide ((c : Int) ≤ 57) = true := decide_eq_true (by omega)
        have f5 : ((k : Int) == 0) = false := by simp; omega
      all_goals
        go_wp2
        go_roundw
        case rel => exact ⟨k + 1, by omega, by go_num, HBB.out⟩
        case measure => simp [intOf]; omega
    · obtain rfl : k = n := by omega
      have hki : ¬ (k : Int) < (k : Int) := by omega
      have HF := Lib.hid hB
      clear hB
      go_wp2
      go_ret
      exact ⟨rfl, HF.out⟩

/-- How many of the fields are no word of their own. -/
def ifM (f : List UInt8) : Nat := if f.contains 77 = true then 1 else 0
theorem r4_ifmem (f : List UInt8) (hf : f.length ≤ 10) (w : World) :
    Calls Tryd.prog 108 #[str f] w fun e w' => e = .returned (.int .i64 (ifM f : Nat)) ∧ Below w.heap.size w w' := by
  rw [str_ba]
  obtain ⟨b, n, hb⟩ : ∃ b n, Bs b f n := ⟨_, _, Bs.of f⟩
  rw [← hb.eq]
  have hn := hb.size
  have hl := hb.len
  rw [hl] at hf
  have hn20 : (n : Int) ≤ 10 := by omega
  have HB := Lib.hid (And.intro hb hl)
  clear hb hl
  go_enter Tryd.func108, Tryd.ntmps108
  go_wp2_with fail
  go_loopw [3] (fun v3 wr => ∃ k : Nat, k ≤ n ∧ v3 = .int .i64 k ∧ (∀ j, j < k → f.getD j 0 ≠ 77) ∧ Below w.heap.size w wr) (fun v3 _ => n - (intOf v3).toNat)
  case atStart => exact ⟨0, Nat.zero_le _, rfl, fun j hj => absurd hj (Nat.not_lt_zero _), Below.refl _ _⟩
  case round =>
    obtain ⟨k, hk, rfl, hall, hB⟩ := hrel
    by_cases hkn : k < n
    · have hkb : k < b.size := by omega
      have hx := HB.out.1.at k hkb
      have hks : k < f.length := by rw [HB.out.2]; exact hkn
      obtain ⟨ch, hch⟩ : ∃ ch, f.getD k 0 = ch := ⟨_, rfl⟩
      rw [hch] at hx
      obtain ⟨c, hcc⟩ : ∃ c : Nat, ch.toNat = c := ⟨_, rfl⟩
      rw [hcc] at hx
      have hki : (k : Int) < (n : Int) := by omega
      have hk0 : (0 : Int) ≤ (k : Int) := by omega
      have HA := Lib.hid (And.intro hall (And.intro hB (And.intro hch (And.intro hcc hks))))
      clear hall hB hch hcc hks
      by_cases h77 : c = 77
      · subst h77
        go_wp2
        go_ret
        refine ⟨?_, HA.out.2.1⟩
        have e : ch = 77 := UInt8.toNat_inj.1 HA.out.2.2.2.1
        have : f.contains 77 = true := by
          rw [List.contains_iff_mem, ← e, ← HA.out.2.2.1]
          exact getD_memB HA.out.2.2.2.2
        unfold ifM
        rw [if_pos this]
        rfl
      · have hci : ¬ (c : Int) = 77 := by omega
        go_wp2
        go_roundw
        case rel =>
          refine ⟨k + 1, by omega, by go_num, fun j hj => ?_, HA.out.2.1⟩
          by_cases c1 : j < k
          · exact HA.out.1 j c1
          · obtain rfl : j = k := by omega
            rw [HA.out.2.2.1]
            intro e
            rw [e] at HA
            exact h77 HA.out.2.2.2.1.symm
        case measure => simp [intOf]; omega
    · obtain rfl : k = n := by omega
      have hki : ¬ (k : Int) < (k : Int) := by omega
      have HF := Lib.hid (And.intro hall hB)
      clear hB hall
      go_wp2
      go_ret
      refine ⟨?_, HF.out.2⟩
      have : ¬ f.contains 77 = true := by
        rw [List.contains_iff_mem]
        intro q
        obtain ⟨j, hj, e⟩ := List.getElem_of_mem q
        exact HF.out.1 j (by rw [← HB.out.2]; exact hj) (by rw [List.getD_eq_getElem?_getD, List.getElem?_eq_getElem hj]; exact e)
      unfold ifM
      rw [if_neg this]
      rfl
theorem nm_apart : (List.range 28).all (fun j => (List.range j).all fun i => !((nmS i).toList == (nmS j).toList)) = true := by decide +kernel
theorem r4_op (j : Nat) (hj : j < 28) (w : World) :
    Calls Tryd.prog 106 #[str (nmB j)] w fun e w' => e = .returned (.int .i64 (j : Int)) ∧ Below w.heap.size w w' := by
  rw [str_ba, ← nm_ba]
  have hne : ∀ i, i < j → ((nmS i).toList == (nmS j).toList) = false := fun i hi => by
    have := List.all_eq_true.1 (List.all_eq_true.1 nm_apart j (List.mem_range.2 hj)) i (List.mem_range.2 hi)
    simpa using this
  have hself : ((nmS j).toList == (nmS j).toList) = true := by simp
  have cN := fun (i : Nat) (hi : i < 28) (W : World) => refName_in i hi W
  have HN := Lib.hid (And.intro hne (And.intro hself cN))
  clear hne hself cN
  go_enter Tryd.func106, Tryd.ntmps106
  go_wp2_with fail
  go_loopw [3] (fun v3 wr => ∃ k : Nat, k ≤ j ∧ v3 = .int .i64 k ∧ Below w.heap.size w wr) (fun v3 _ => j + 1 - (intOf v3).toNat)
  case atStart => exact ⟨0, Nat.zero_le _, rfl, Below.refl _ _⟩
  case round =>
    obtain ⟨k, hk, rfl, hB⟩ := hrel
    have hki : (k : Int) < 28 := by omega
    have hk0 : (0 : Int) ≤ (k : Int) := by omega
    have cK := HN.out.2.2 k (by omega) wr
    have HBB := Lib.hid hB
    clear hB
    go_wp2_with fail
    refine cK.mono ?_
    rintro e W2 ⟨rfl, hB2⟩
    have HB2 := Lib.hid (HBB.out.trans (hB2.mono HBB.out.size))
    clear cK hB2
    by_cases hkj : k < j
    · have hne := HN.out.1 k hkj
      go_wp2
      go_roundw
      case rel => exact ⟨k + 1, by omega, by go_num, HB2.out⟩
      case measure => simp [intOf]; omega
    · obtain rfl : k = j := by omega
      have hs := HN.out.2.1
      go_wp2
      go_ret
      exact ⟨rfl, HB2.out⟩
end Go.Proofs.YtmhfpjnkjlhbpaaDoor
