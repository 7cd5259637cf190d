/- A text filled in (Fill) (printed by gen/reft5.py). -/
import Derived.Test.YtmhfpjnkjlhbpaaDoorRefT4
namespace Go.Proofs.YtmhfpjnkjlhbpaaDoor
open Go.ChangeShapes Go.WideShapes Go.ChangeAt Go.RowKit Go.Deep
set_option linter.unusedVariables false
set_option maxRecDepth 100000
set_option linter.unusedSimpArgs false

/-- A text with addresses and who asks filled in. -/
def fillL (base t : Nat) : List UInt8 → List UInt8
  | [] => []
  | [c] => if c = 36 then numL (t + 1) else [c]
  | [c, d] => (if c = 36 then numL (t + 1) else [c]) ++ (if d = 36 then numL (t + 1) else [d])
  | c :: a :: e :: s => if c = 36 then numL (t + 1) ++ fillL base t (a :: e :: s) else if c = 91 ∧ 97 ≤ a.toNat ∧ a.toNat ≤ 113 ∧ e = 93 then 91 :: (numL (base + (a.toNat - 97)) ++ 93 :: fillL base t s) else c :: fillL base t (a :: e :: s)
theorem fillL_who (base t : Nat) (s : List UInt8) : fillL base t (36 :: s) = numL (t + 1) ++ fillL base t s := by
  match s with
  | [] => show (if (36 : UInt8) = 36 then _ else _) = _; rw [if_pos rfl]; simp [fillL]
  | [d] => show (if (36 : UInt8) = 36 then numL (t + 1) else [36]) ++ _ = _; rw [if_pos rfl]; rfl
  | a :: e :: s => show (if (36 : UInt8) = 36 then numL (t + 1) ++ _ else _) = _; rw [if_pos rfl]
theorem fillL_at (base t : Nat) (a : UInt8) (s : List UInt8) (h1 : 97 ≤ a.toNat) (h2 : a.toNat ≤ 113) : fillL base t (91 :: a :: 93 :: s) = 91 :: (numL (base + (a.toNat - 97)) ++ 93 :: fillL base t s) := by
  show (if (91 : UInt8) = 36 then _ else if (91 : UInt8) = 91 ∧ 97 ≤ a.toNat ∧ a.toNat ≤ 113 ∧ (93 : UInt8) = 93 then _ else _) = _
  rw [if_neg (by decide), if_pos ⟨rfl, h1, h2, rfl⟩]
theorem fillL_one (base t : Nat) (c : UInt8) (s : List UInt8) (h : c ≠ 36) (hn : ¬ (2 ≤ s.length ∧ c = 91 ∧ 97 ≤ (s.getD 0 0).toNat ∧ (s.getD 0 0).toNat ≤ 113 ∧ s.getD 1 0 = 93)) : fillL base t (c :: s) = c :: fillL base t s := by
  match s, hn with
  | [], _ => show (if c = 36 then _ else [c]) = _; rw [if_neg h]; rfl
  | [d], _ => show (if c = 36 then numL (t + 1) else [c]) ++ _ = _; rw [if_neg h]; rfl
  | a :: e :: s, hn =>
    show (if c = 36 then _ else if c = 91 ∧ 97 ≤ a.toNat ∧ a.toNat ≤ 113 ∧ e = 93 then _ else c :: fillL base t (a :: e :: s)) = _
    rw [if_neg h, if_neg (show ¬ (c = 91 ∧ 97 ≤ a.toNat ∧ a.toNat ≤ 113 ∧ e = 93) from fun q => hn ⟨by simp, q⟩)]
theorem getD_drop {s : List UInt8} {k : Nat} (j : Nat) : (s.drop k).getD j 0 = s.getD (k + j) 0 := by simp [List.getD_eq_getElem?_getD, List.getElem?_drop]
theorem drop_consB {s : List UInt8} {k : Nat} (hk : k < s.length) : s.drop k = s.getD k 0 :: s.drop (k + 1) := by
  rw [List.drop_eq_getElem_cons hk]
  simp [List.getD_eq_getElem?_getD, List.getElem?_eq_getElem hk]

set_option maxHeartbeats 4000000 in
theorem r15_fill (s : List UInt8) (base t : Nat) (hs : s.length ≤ 2000) (hb : base ≤ 4000000000) (ht : t ≤ 1000) (w : World) :
    Calls Tryd.prog 36 #[str s, .int .i64 (base : Int), .int .i64 (t : Int)] w fun e w' => e = .returned (str (fillL base t s)) ∧ Below w.heap.size w w' := by
  rw [str_ba]
  obtain ⟨b, n, hbs⟩ : ∃ b n, Bs b s n := ⟨_, _, Bs.of s⟩
  rw [← hbs.eq]
  have hn := hbs.size
  have hl := hbs.len
  rw [hl] at hs
  have cT := r15_num (t + 1) (by omega)
  have cA := fun (a : Nat) (ha : a ≤ 20) => r15_num (base + a) (by omega)
  have HB := Lib.hid (And.intro hbs (And.intro hl (And.intro cT cA)))
  have hni : (n : Int) ≤ 2000 := by omega
  have hti : (t : Int) ≤ 1000 := by omega
  have hbi : (base : Int) ≤ 4000000000 := by omega
  have hb0 : (0 : Int) ≤ (base : Int) := by omega
  have ht0 : (0 : Int) ≤ (t : Int) := by omega
  clear hbs hl cT cA
  go_enter Tryd.func36, Tryd.ntmps36
  go_wp2_with fail
  go_loopw [7, 8] (fun v7 v8 wr => ∃ (k : Nat) (out : List UInt8), k ≤ n ∧ out.length ≤ 10 * k ∧ v8 = .int .i64 k ∧ v7 = .string (ba out) ∧ out ++ fillL base t (s.drop k) = fillL base t s ∧ Below w.heap.size w wr) (fun _ v8 _ => n - (intOf v8).toNat)
  case atStart => exact ⟨0, [], Nat.zero_le _, Nat.zero_le _, rfl, rfl, rfl, Below.refl _ _⟩
  case round =>
    obtain ⟨k, out, hk, hol, rfl, rfl, hf, hB⟩ := hrel
    have hk0 : (0 : Int) ≤ (k : Int) := by omega
    have hko : (k : Int) ≤ (n : Int) := by omega
    by_cases hkn : k < n
    · have hki : (k : Int) < (n : Int) := by omega
      have hks : k < s.length := by rw [HB.out.2.1]; exact hkn
      have hkb : k < b.size := by omega
      have hx := HB.out.1.at k hkb
      rw [drop_consB hks] at hf
      obtain ⟨c, hc⟩ : ∃ c, s.getD k 0 = c := ⟨_, rfl⟩
      rw [hc] at hx hf
      obtain ⟨cn, hcn⟩ : ∃ cn : Nat, c.toNat = cn := ⟨_, rfl⟩
      rw [hcn] at hx
      have hob : (ba out).size ≤ 20000 := by rw [ba_size]; omega
      by_cases h36 : cn = 36
      · subst h36
        have e36 : c = 36 := UInt8.toNat_inj.1 hcn
        rw [e36, fillL_who] at hf
        have w5 : (ba out).size + (ba (numL (t + 1))).size ≤ 9223372036854775807 := by
          rw [ba_size (numL _)]
          have := numL_ten (n := t + 1) (by omega)
          omega
        have HP := Lib.hid (And.intro hf (And.intro hB (And.intro hol hob)))
        clear hf hB hol hob hc hcn e36
        go_wp2_with fail
        have cT : Calls Tryd.prog 40 #[.int .i64 ((t : Int) + 1)] wr fun e w' => e = .returned (str (numL (t + 1))) ∧ Below wr.heap.size wr w' := HB.out.2.2.1 wr
        refine cT.mono ?_
        rintro e W2 ⟨rfl, hB2⟩
        rw [str_ba]
        have HQ := Lib.hid (HP.out.2.1.trans (hB2.mono HP.out.2.1.size))
        clear cT hB2
        go_wp2
        go_roundw
        case rel =>
          refine ⟨k + 1, out ++ numL (t + 1), by omega, ?_, by go_num, ?_, ?_, HQ.out⟩
          · have := numL_ten (n := t + 1) (by omega)
            have := HP.out.2.2.1
            rw [List.length_append]; omega
          · rw [← ba_app]
          · rw [List.append_assoc]; exact HP.out.1
        case measure => simp [intOf]; omega
      · have hci : ((cn : Int) == 36) = false := by simp; omega
        have hc36 : c ≠ 36 := fun e => h36 (by rw [← hcn, e]; rfl)
        by_cases h2 : k + 2 < n
        · have f1 : decide ((k : Int) + 2 < (n : Int)) = true := decide_eq_true (by omega)
          have hk1s : k + 1 < s.length := by rw [HB.out.2.1]; omega
          have hk2s : k + 2 < s.length := by rw [HB.out.2.1]; omega
          have hk1b : k + 1 < b.size := by omega
          have hk2b : k + 2 < b.size := by omega
          have hx1 := HB.out.1.at (k + 1) hk1b
          have hx2 := HB.out.1.at (k + 2) hk2b
          obtain ⟨a, ha⟩ : ∃ a, s.getD (k + 1) 0 = a := ⟨_, rfl⟩
          obtain ⟨e, he⟩ : ∃ e, s.getD (k + 2) 0 = e := ⟨_, rfl⟩
          rw [ha] at hx1
          rw [he] at hx2
          obtain ⟨an, han⟩ : ∃ an : Nat, a.toNat = an := ⟨_, rfl⟩
          obtain ⟨en, hen⟩ : ∃ en : Nat, e.toNat = en := ⟨_, rfl⟩
          rw [han] at hx1
          rw [hen] at hx2
          have d0 : (s.drop (k + 1)).getD 0 0 = a := by rw [getD_drop]; exact ha
          have d1 : (s.drop (k + 1)).getD 1 0 = e := by rw [getD_drop]; exact he
          have han2 : an < 256 := by rw [← han]; exact a.toNat_lt
          by_cases h91 : cn = 91
          · have f2 : ((cn : Int) == 91) = true := by simp; omega
            by_cases h97 : 97 ≤ an
            · have f3 : decide ((97 : Int) ≤ (an : Int)) = true := decide_eq_true (by omega)
              by_cases h113 : an ≤ 113
              · have f4 : decide ((an : Int) ≤ 113) = true := decide_eq_true (by omega)
                by_cases h93 : en = 93
                · have f5 : ((en : Int) == 93) = true := by simp; omega
                  have ec : c = 91 := UInt8.toNat_inj.1 (hcn.trans h91)
                  have ee : e = 93 := UInt8.toNat_inj.1 (hen.trans h93)
                  obtain ⟨j, hj⟩ : ∃ j, an = 97 + j := ⟨an - 97, by omega⟩
                  have hd3 : s.drop (k + 1) = a :: 93 :: s.drop (k + 3) := by rw [drop_consB hk1s, ha, drop_consB hk2s, he, ee]
                  rw [hd3, ec, fillL_at base t a _ (by omega) (by omega), han, show an - 97 = j by omega] at hf
                  have cA := HB.out.2.2.2 j (by omega)
                  have hlen := numL_ten (n := base + j) (by omega)
                  have hj16 : (j : Int) ≤ 16 := by omega
                  have hj0 : (0 : Int) ≤ (j : Int) := by omega
                  have han3 : (an : Int) - 97 = (j : Int) := by omega
                  have w5 : (ba out).size + (⟨#[91]⟩ : ByteArray).size ≤ 9223372036854775807 := by
                    rw [show (⟨#[91]⟩ : ByteArray).size = 1 from rfl]; omega
                  have w6 : (ba out ++ (⟨#[91]⟩ : ByteArray)).size + (ba (numL (base + j))).size ≤ 9223372036854775807 := by
                    rw [show (⟨#[91]⟩ : ByteArray) = ba [91] from rfl, ba_app, ba_size, ba_size, List.length_append]; simp; omega
                  have w7 : ((ba out ++ (⟨#[91]⟩ : ByteArray)) ++ ba (numL (base + j))).size + (⟨#[93]⟩ : ByteArray).size ≤ 9223372036854775807 := by
                    rw [show (⟨#[91]⟩ : ByteArray) = ba [91] from rfl, show (⟨#[93]⟩ : ByteArray) = ba [93] from rfl, ba_app, ba_app, ba_size, ba_size, List.length_append, List.length_append]; simp; omega
                  have HP := Lib.hid (And.intro hf (And.intro hB (And.intro hol (And.intro hlen cA))))
                  clear hf hB hol hc hcn hc36 ha he han hen d0 d1 hd3 ec ee hlen cA hob hj
                  go_wp2_with fail
                  have cA : Calls Tryd.prog 40 #[.int .i64 ((base : Int) + (j : Int))] wr fun e w' => e = .returned (str (numL (base + j))) ∧ Below wr.heap.size wr w' := by
                    rw [← Int.natCast_add]; exact HP.out.2.2.2.2 wr
                  with_reducible refine cA.mono ?_
                  rintro e W2 ⟨rfl, hB2⟩
                  rw [str_ba]
                  have HQ := Lib.hid (HP.out.2.1.trans (hB2.mono HP.out.2.1.size))
                  clear hB2
                  go_wp2
                  go_roundw
                  case rel =>
                    refine ⟨k + 3, out ++ (91 :: (numL (base + j) ++ [93])), by omega, ?_, by go_num, ?_, ?_, HQ.out⟩
                    · have h1 := HP.out.2.2.1
                      have h2 := HP.out.2.2.2.1
                      rw [List.length_append]; simp; omega
                    · rw [show (⟨#[91]⟩ : ByteArray) = ba [91] from rfl, show (⟨#[93]⟩ : ByteArray) = ba [93] from rfl, ba_app, ba_app, ba_app]
                      simp
                    · rw [← HP.out.1]; simp
                  case measure => simp [intOf]; omega
                · have f5 : ((en : Int) == 93) = false := by simp; omega
                  have hone := fillL_one base t c (s.drop (k + 1)) hc36 (by rw [d0, d1]; exact fun q => h93 (by rw [← hen, q.2.2.2.2]; rfl))
                  rw [hone] at hf
                  have w5 : (ba out).size + (ba [c]).size ≤ 9223372036854775807 := by rw [ba_size [c]]; simp; omega
                  have hex : b.extract k (k + 1) = ba [c] := by
                    rw [HB.out.1.eq, ba_ext_, takeB_snoc hks, hc, List.drop_append_of_le_length (by rw [List.length_take]; omega), List.drop_eq_nil_of_le (by rw [List.length_take]; omega)]; rfl
                  have hk1 : k + 1 ≤ b.size := by omega
                  have HP := Lib.hid (And.intro hf (And.intro hB hol))
                  clear hf hB hol hone hc hcn hc36
                  go_wp2
                  go_roundw
                  case rel =>
                    refine ⟨k + 1, out ++ [c], by omega, ?_, by go_num, ?_, ?_, HP.out.2.1⟩
                    · have := HP.out.2.2
                      rw [List.length_append]; simp; omega
                    · rw [← ba_app]
                    · rw [List.append_assoc]; exact HP.out.1
                  case measure => simp [intOf]; omega
              · have f4 : decide ((an : Int) ≤ 113) = false := decide_eq_false (by omega)
                have hone := fillL_one base t c (s.drop (k + 1)) hc36 (by rw [d0, d1, han]; exact fun q => h113 q.2.2.2.1)
                rw [hone] at hf
                have w5 : (ba out).size + (ba [c]).size ≤ 9223372036854775807 := by rw [ba_size [c]]; simp; omega
                have hex : b.extract k (k + 1) = ba [c] := by
                  rw [HB.out.1.eq, ba_ext_, takeB_snoc hks, hc, List.drop_append_of_le_length (by rw [List.length_take]; omega), List.drop_eq_nil_of_le (by rw [List.length_take]; omega)]; rfl
                have hk1 : k + 1 ≤ b.size := by omega
                have HP := Lib.hid (And.intro hf (And.intro hB hol))
                clear hf hB hol hone hc hcn hc36
                go_wp2
                go_roundw
                case rel =>
                  refine ⟨k + 1, out ++ [c], by omega, ?_, by go_num, ?_, ?_, HP.out.2.1⟩
                  · have := HP.out.2.2
                    rw [List.length_append]; simp; omega
                  · rw [← ba_app]
                  · rw [List.append_assoc]; exact HP.out.1
                case measure => simp [intOf]; omega
            · have f3 : decide ((97 : Int) ≤ (an : Int)) = false := decide_eq_false (by omega)
              have hone := fillL_one base t c (s.drop (k + 1)) hc36 (by rw [d0, d1, han]; exact fun q => h97 q.2.2.1)
              rw [hone] at hf
              have w5 : (ba out).size + (ba [c]).size ≤ 9223372036854775807 := by rw [ba_size [c]]; simp; omega
              have hex : b.extract k (k + 1) = ba [c] := by
                rw [HB.out.1.eq, ba_ext_, takeB_snoc hks, hc, List.drop_append_of_le_length (by rw [List.length_take]; omega), List.drop_eq_nil_of_le (by rw [List.length_take]; omega)]; rfl
              have hk1 : k + 1 ≤ b.size := by omega
              have HP := Lib.hid (And.intro hf (And.intro hB hol))
              clear hf hB hol hone hc hcn hc36
              go_wp2
              go_roundw
              case rel =>
                refine ⟨k + 1, out ++ [c], by omega, ?_, by go_num, ?_, ?_, HP.out.2.1⟩
                · have := HP.out.2.2
                  rw [List.length_append]; simp; omega
                · rw [← ba_app]
                · rw [List.append_assoc]; exact HP.out.1
              case measure => simp [intOf]; omega
          · have f2 : ((cn : Int) == 91) = false := by simp; omega
            have hone := fillL_one base t c (s.drop (k + 1)) hc36 (fun q => h91 (by rw [← hcn, q.2.1]; rfl))
            rw [hone] at hf
            have w5 : (ba out).size + (ba [c]).size ≤ 9223372036854775807 := by rw [ba_size [c]]; simp; omega
            have hex : b.extract k (k + 1) = ba [c] := by
              rw [HB.out.1.eq, ba_ext_, takeB_snoc hks, hc, List.drop_append_of_le_length (by rw [List.length_take]; omega), List.drop_eq_nil_of_le (by rw [List.length_take]; omega)]; rfl
            have hk1 : k + 1 ≤ b.size := by omega
            have HP := Lib.hid (And.intro hf (And.intro hB hol))
            clear hf hB hol hone hc hcn hc36
            go_wp2
            go_roundw
            case rel =>
              refine ⟨k + 1, out ++ [c], by omega, ?_, by go_num, ?_, ?_, HP.out.2.1⟩
              · have := HP.out.2.2
                rw [List.length_append]; simp; omega
              · rw [← ba_app]
              · rw [List.append_assoc]; exact HP.out.1
            case measure => simp [intOf]; omega
        · have f1 : decide ((k : Int) + 2 < (n : Int)) = false := decide_eq_false (by omega)
          have hone := fillL_one base t c (s.drop (k + 1)) hc36 (fun q => by have := q.1; rw [List.length_drop, HB.out.2.1] at this; omega)
          rw [hone] at hf
          have w5 : (ba out).size + (ba [c]).size ≤ 9223372036854775807 := by rw [ba_size [c]]; simp; omega
          have hex : b.extract k (k + 1) = ba [c] := by
            rw [HB.out.1.eq, ba_ext_, takeB_snoc hks, hc, List.drop_append_of_le_length (by rw [List.length_take]; omega), List.drop_eq_nil_of_le (by rw [List.length_take]; omega)]; rfl
          have hk1 : k + 1 ≤ b.size := by omega
          have HP := Lib.hid (And.intro hf (And.intro hB hol))
          clear hf hB hol hone hc hcn hc36
          go_wp2
          go_roundw
          case rel =>
            refine ⟨k + 1, out ++ [c], by omega, ?_, by go_num, ?_, ?_, HP.out.2.1⟩
            · have := HP.out.2.2
              rw [List.length_append]; simp; omega
            · rw [← ba_app]
            · rw [List.append_assoc]; exact HP.out.1
          case measure => simp [intOf]; omega
    · obtain rfl : k = n := by omega
      have hki : ¬ (k : Int) < (k : Int) := by omega
      have e0 : s.drop k = [] := List.drop_eq_nil_of_le (by rw [HB.out.2.1]; exact Nat.le_refl _)
      rw [e0] at hf
      have hf' : out = fillL base t s := by rw [← hf]; simp [fillL]
      have HF := Lib.hid (And.intro hf' hB)
      clear hf hf' hB e0
      go_wp2
      go_ret
      exact ⟨by rw [← HF.out.1]; rfl, HF.out.2⟩
end Go.Proofs.YtmhfpjnkjlhbpaaDoor
