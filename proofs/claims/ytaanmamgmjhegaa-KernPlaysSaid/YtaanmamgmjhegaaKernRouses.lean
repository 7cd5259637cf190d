/- KernRouses returns true for all inputs: the row. -/
import Derived.Test.YtaanmamgmjhegaaKernOrder
namespace Go.Proofs.Ytaanmamgmjhegaa
open Go.ChangeShapes Go.WideShapes Go.ChangeAt Go.RowKit Go.Deep
set_option linter.unusedVariables false
set_option linter.unusedSimpArgs false

/-- All but those of a name. -/
def rem (Q : List Slp) (who : Int) : List Slp := Q.filter fun x => x.1 != who
theorem rem_mem {Q : List Slp} {who : Int} : ∀ x ∈ rem Q who, x.1 ≠ who := fun x hx => by
  have := (List.mem_filter.1 hx).2
  simpa using this
theorem fnd_none {Q : List Slp} {who : Int} (h : ∀ x ∈ Q, x.1 ≠ who) : fnd Q who = Q.length := by
  unfold fnd
  rw [List.findIdx_eq_length]
  intro x hx
  simpa using h x hx
theorem fnd_miss_all {Q : List Slp} {who : Int} (h : ¬ fnd Q who < Q.length) : ∀ x ∈ Q, x.1 ≠ who := by
  have h2 : fnd Q who = Q.length := by have := fnd_le Q who; omega
  unfold fnd at h2
  rw [List.findIdx_eq_length] at h2
  intro x hx
  simpa using h2 x hx
theorem rem_self {Q : List Slp} {who : Int} (h : ∀ x ∈ Q, x.1 ≠ who) : rem Q who = Q := by
  unfold rem
  rw [List.filter_eq_self]
  intro x hx
  simpa using h x hx
theorem erase_rem {who : Int} : ∀ (Q : List Slp), (Q.map Prod.fst).Nodup → fnd Q who < Q.length → Q.eraseIdx (fnd Q who) = rem Q who
  | [], _, h => absurd h (by simp)
  | x :: Q, hn, h => by
    rw [List.map_cons] at hn
    obtain ⟨h1, h2⟩ := List.nodup_cons.1 hn
    by_cases hx : x.1 = who
    · have e : fnd (x :: Q) who = 0 := by unfold fnd; rw [List.findIdx_cons]; simp [hx]
      rw [e, List.eraseIdx_cons_zero]
      have e2 : rem (x :: Q) who = rem Q who := by unfold rem; rw [List.filter_cons_of_neg (p := fun x : Slp => x.1 != who) (by simpa using hx)]
      rw [e2, rem_self]
      intro y hy e3
      exact h1 (List.mem_map.2 ⟨y, hy, by rw [e3, hx]⟩)
    · have hb : (x.1 == who) = false := by simpa using hx
      have e : fnd (x :: Q) who = fnd Q who + 1 := by
        unfold fnd
        rw [List.findIdx_cons, hb]
        rfl
      rw [e] at h ⊢
      rw [List.eraseIdx_cons_succ, erase_rem Q h2 (by simpa using h)]
      unfold rem
      rw [List.filter_cons_of_pos (p := fun x : Slp => x.1 != who) (by simpa using hx)]
theorem rem_at {Q : List Slp} {who : Int} {j : Nat} (hj : j < Q.length) (h : (Q.getD j (0, 0)).1 ≠ who) :
    (rem (Q.take j) who).length < (rem Q who).length ∧ (rem Q who).getD (rem (Q.take j) who).length (0, 0) = Q.getD j (0, 0) ∧ (rem (Q.take (j + 1)) who).length = (rem (Q.take j) who).length + 1 := by
  have e1 : rem Q who = rem (Q.take j) who ++ (Q.getD j (0, 0) :: rem (Q.drop (j + 1)) who) := by
    have e : Q = Q.take j ++ (Q.getD j (0, 0) :: Q.drop (j + 1)) := by
      rw [List.getD_eq_getElem?_getD, List.getElem?_eq_getElem hj]
      show Q = Q.take j ++ (Q[j] :: Q.drop (j + 1))
      rw [← List.drop_eq_getElem_cons hj, List.take_append_drop]
    have e' : rem Q who = rem (Q.take j ++ (Q.getD j (0, 0) :: Q.drop (j + 1))) who := by rw [← e]
    rw [e']
    unfold rem
    rw [List.filter_append, List.filter_cons_of_pos (p := fun x : Slp => x.1 != who) (by simpa using h)]
  refine ⟨?_, ?_, ?_⟩
  · rw [e1, List.length_append]; simp
  · rw [e1, List.getD_eq_getElem?_getD, List.getElem?_append_right (Nat.le_refl _), Nat.sub_self]; rfl
  · rw [take_snoc Q j (0, 0) hj]
    unfold rem
    rw [List.filter_append, List.length_append, List.filter_cons_of_pos (p := fun x : Slp => x.1 != who) (by simpa using h)]
    rfl
theorem rem_not {Q : List Slp} {who : Int} {j : Nat} (hj : j < Q.length) (h : (Q.getD j (0, 0)).1 = who) : (rem (Q.take (j + 1)) who).length = (rem (Q.take j) who).length := by
  rw [take_snoc Q j (0, 0) hj]
  unfold rem
  rw [List.filter_append, List.length_append, List.filter_cons_of_neg (p := fun x : Slp => x.1 != who) (by simpa using h)]
  rfl

theorem KStep.rowFar {w w' : World} {kb b n size : Nat} {e : TypeId} {v x : Value} {xs : List Value} (h : KStep w w' kb v) (hr : w.ownsRow b e size x n xs) (hx : ∀ i, x.ownBlock = some i → i ≠ kb ∧ some i ≠ v.ownBlock) : w'.ownsRow b e size x n xs := by
  have hlt := own_lt hr
  obtain ⟨q1, q2⟩ := hr
  refine ⟨q1, ?_⟩
  rcases q2 with q2 | ⟨g, cap, cur, rfl, hgb, hh, q⟩
  · exact .inl q2
  · exact .inr ⟨g, cap, cur, rfl, hgb, (h.block g (hlt g rfl) (hx g rfl).1 (hx g rfl).2).trans hh, q⟩

theorem kernRouses_long (A : Option Addr) (len cap : Nat) (a b : Value) (w : World) (hl : 300 < len) (hm : len ≤ maxLen) :
    Calls Try.prog 10 #[.slice A len cap, a, b] w fun e w' => e = .returned (.bool true) ∧ Below w.heap.size w w' := by
  unfold maxLen at hm
  have hl' : (300 : Int) < (len : Int) := by omega
  go_enter Try.func10, Try.ntmps10
  go_wp2_with fail
  refine (kernAwake_any _).mono ?_
  rintro e w1 ⟨rfl, hb1⟩
  go_wp2_with fail
  refine (kernAwake_any _).mono ?_
  rintro e w2 ⟨rfl, hb2⟩
  go_wp2
  go_ret
  exact ⟨rfl, step_below hb1 hb2⟩

set_option maxRecDepth 100000 in
set_option maxHeartbeats 4000000 in
theorem kernRouses_true (A : Option Addr) (len cap : Nat) (Z : Nat → Int) (addr who : Int) (hl : len ≤ 300) (w : World) (hsl : Sl w A len (fun i => .int .i64 (Z i))) :
    Calls Try.prog 10 #[.slice A len cap, .int .i64 addr, .int .i64 who] w fun e w' => e = .returned (.bool true) ∧ Below w.heap.size w w' := by
  have hl' : ¬ (300 : Int) < (len : Int) := by omega
  have HS := Lib.hid hsl
  clear hsl
  go_enter Try.func10, Try.ntmps10
  go_wp2_with fail
  refine (kernAwake_any _).mono ?_
  rintro e w1 ⟨rfl, hb1⟩
  have hk := K.new w1
  have hB0 := hb1.alloc hb1.size (.cells #[.slice none 0 0] 58)
  have hsz : (w1.alloc (.cells #[.slice none 0 0] 58)).heap.size = w1.heap.size + 1 := by simp
  have hkb : w.heap.size ≤ w1.heap.size := hb1.size
  go_wp2_with fail
  obtain ⟨w2, hw2⟩ : ∃ w2, w1.alloc (.cells #[.slice none 0 0] 58) = w2 := ⟨_, rfl⟩
  rw [hw2] at hk hB0 hsz ⊢
  clear hw2 hb1
  obtain ⟨kb, hkbe⟩ : ∃ kb, w1.heap.size = kb := ⟨_, rfl⟩
  rw [hkbe] at hk hsz hkb ⊢
  clear hkbe
  have HI := Lib.hid (And.intro hk (And.intro hB0 hsz))
  clear hk hB0 hsz
  go_loopw [8] (fun i wr => ∃ (k : Nat) (Q : List Slp) (v : Value), k ≤ len ∧ i = .int .i64 k ∧ Sleepers Q ∧ K wr kb (kb + 1) v Q ∧ kb + 1 ≤ wr.heap.size ∧ Below w.heap.size w wr) (fun i _ => len - (intOf i).toNat)
  case atStart => exact ⟨0, [], _, Nat.zero_le _, rfl, ⟨fun x hx => absurd hx List.not_mem_nil, List.nodup_nil⟩, HI.out.1, by rw [HI.out.2.2]; exact Nat.le_refl _, HI.out.2.1⟩
  case round =>
    clear HI
    obtain ⟨k, Q, v, hkl, rfl, hq, hK, hsz, hB⟩ := hrel
    have hql := hq.le
    have HQ := Lib.hid hq
    clear hq
    by_cases hlt : k < len
    · have hlt' : (k : Int) < (len : Int) := by omega
      have hk0 : (0 : Int) ≤ (k : Int) := by omega
      obtain ⟨b, off, rfl, hb, hc⟩ := HS.out (by omega)
      have k0 := keepAt hB hb (hc k hlt)
      dsimp only at k0
      clear hc
      obtain ⟨z, hz⟩ : ∃ z, Z k = z := ⟨_, rfl⟩
      rw [hz] at k0
      clear hz
      have HK := Lib.hid (And.intro hK hB)
      clear hK hB
      by_cases he : slpE Q z = 0
      · have HE := Lib.hid he
        clear he
        go_wp2_with fail
        refine (sleep_yes kb (kb + 1) v Q (by omega) z _ HE.out wr HK.out.1 hsz).mono ?_
        rintro e w3 ⟨rfl, v3, hK3, hS3⟩
        have H5 := Lib.hid (And.intro hK3 (And.intro (Nat.le_trans hsz hS3.size) (HK.out.2.trans (hS3.below HK.out.1 hkb))))
        clear hK3 hS3
        go_wp2
        go_roundw
        case rel => exact ⟨k + 1, _, v3, by omega, by go_num, HQ.out.snoc HE.out, H5.out.1, H5.out.2.1, H5.out.2.2⟩
        case measure => simp [intOf]; omega
      · have HE := Lib.hid he
        clear he
        go_wp2_with fail
        refine (sleep_no kb (kb + 1) v Q (by omega) z _ HE.out wr HK.out.1).mono ?_
        rintro e w3 ⟨rfl, hb3⟩
        have H5 := Lib.hid (And.intro (HK.out.1.below hb3) (And.intro (Nat.le_trans hsz hb3.size) (step_below HK.out.2 hb3)))
        clear hb3
        go_wp2
        go_roundw
        case rel => exact ⟨k + 1, Q, v, by omega, by go_num, HQ.out, H5.out.1, H5.out.2.1, H5.out.2.2⟩
        case measure => simp [intOf]; omega
    · obtain rfl : len = k := by omega
      have hlt' : ¬ (len : Int) < (len : Int) := by omega
      have cA := all_any kb (kb + 1) v Q (by omega) wr hK
      have HK := Lib.hid (And.intro hK hB)
      clear hK hB
      go_wp2_with fail
      refine cA.mono ?_
      rintro e w3 ⟨o, rfl, ho, hb3⟩
      have hK3 := HK.out.1.below hb3
      have hvlt := own_lt HK.out.1.row
      have cS := asleep_any kb (kb + 1) v Q (by omega) who w3 hK3
      have H3 := Lib.hid (And.intro hK3 (And.intro ho (And.intro (step_below HK.out.2 hb3) (And.intro hvlt hb3))))
      obtain ⟨oA, oc, rfl, _, _⟩ := own_sl ho
      clear hK3 ho hb3 hvlt cA
      go_wp2_with fail
      refine cS.mono ?_
      rintro e w4 ⟨rfl, hb4⟩
      have hK4 := H3.out.1.below hb4
      have ho4 := own_below H3.out.2.1 (Nat.le_refl _) hb4
      have hB4 := step_below H3.out.2.2.1 hb4
      have hof : ∀ i, (Value.slice oA Q.length oc).ownBlock = some i → i ≠ kb ∧ some i ≠ v.ownBlock := fun i e => by
        have h1 := own_ge ho4 i e
        refine ⟨by omega, fun e2 => ?_⟩
        have := H3.out.2.2.2.1 i e2.symm
        omega
      have hz4 : kb + 1 ≤ w4.heap.size := Nat.le_trans hsz (Nat.le_trans H3.out.2.2.2.2.size hb4.size)
      -- both ways come to one state
      have H4 := Lib.hid (And.intro hK4 (And.intro ho4 (And.intro hB4 hof)))
      have hb4z := hb4.size
      clear hK4 ho4 hB4 hof hb4 cS
      obtain ⟨a1, ha1⟩ : ∃ a1, (aslp Q who).1 = a1 := ⟨_, rfl⟩
      rw [ha1]
      clear ha1
      rcases Decidable.em (fnd Q who < Q.length) with hf | hf
      case' inl =>
        have e2 : (aslp Q who).2 = true := by unfold aslp; rw [if_pos hf]
        have cR := rouse_yes kb (kb + 1) v Q (by omega) who hf w4 H4.out.1
        rw [e2]
        have hR := erase_rem Q HQ.out.once hf
        unfold Roused at cR
        rw [hR] at cR
        clear e2 hf hR
        go_wp2_with fail
        refine cR.mono ?_
        rintro e w5 ⟨rfl, v6, hK5, hvb, hS5⟩
        have cN := rouse_no kb (kb + 1) v6 (rem Q who) (by have : (rem Q who).length ≤ Q.length := List.length_filter_le _ _; omega) who (by rw [fnd_none rem_mem]; omega) w5 hK5
        have H5 := Lib.hid (And.intro hK5 (And.intro (hS5.rowFar H4.out.2.1 H4.out.2.2.2) (And.intro (H4.out.2.2.1.trans (hS5.below H4.out.1 hkb)) hS5.size)))
        clear hK5 hS5 hvb cR
        go_wp2_with fail
        refine cN.mono ?_
        rintro e w6 ⟨rfl, hb6⟩
        have H6 := Lib.hid (And.intro (H5.out.1.below hb6) (And.intro (own_below H5.out.2.1 (Nat.le_refl _) hb6) (step_below H5.out.2.2.1 hb6)))
        have hz6 : kb + 1 ≤ w6.heap.size := Nat.le_trans hz4 (Nat.le_trans H5.out.2.2.2 hb6.size)
        clear hb6 cN H5
        go_wp2_with fail
      case' inr =>
        have e2 : (aslp Q who).2 = false := by unfold aslp; rw [if_neg hf]
        have cR := rouse_no kb (kb + 1) v Q (by omega) who hf w4 H4.out.1
        rw [e2]
        have hR : rem Q who = Q := rem_self (fnd_miss_all hf)
        have HR := Lib.hid (And.intro hR hf)
        clear e2 hf hR
        go_wp2_with fail
        refine cR.mono ?_
        rintro e w5 ⟨rfl, hb5⟩
        have cN := rouse_no kb (kb + 1) v Q (by omega) who HR.out.2 w5 (H4.out.1.below hb5)
        have H5 := Lib.hid hb5
        clear hb5 cR
        go_wp2_with fail
        refine cN.mono ?_
        rintro e w6 ⟨rfl, hb6⟩
        obtain ⟨v6, rfl⟩ : ∃ v6, v6 = v := ⟨_, rfl⟩
        have H6 : Hid (K w6 kb (kb + 1) v6 (rem Q who) ∧ w6.ownsRow wr.heap.size 66 2 (.slice oA Q.length oc) Q.length (Q.flatMap slp) ∧ Below w.heap.size w w6) :=
          Lib.hid ⟨by rw [HR.out.1]; exact (H4.out.1.below H5.out).below hb6, own_below (own_below H4.out.2.1 (Nat.le_refl _) H5.out) (Nat.le_refl _) hb6, step_below (step_below H4.out.2.2.1 H5.out) hb6⟩
        have hz6 : kb + 1 ≤ w6.heap.size := Nat.le_trans hz4 (Nat.le_trans H5.out.size hb6.size)
        clear hb6 cN H5
        go_wp2_with fail
      all_goals
        refine (all_any kb (kb + 1) v6 (rem Q who) (by have : (rem Q who).length ≤ Q.length := List.length_filter_le _ _; omega) w6 H6.out.1).mono ?_
        rintro e w7 ⟨o2, rfl, ho2, hb7⟩
        have hw7 := own_below H6.out.2.1 (Nat.le_refl _) hb7
        obtain ⟨pA, pc, rfl, _, hp⟩ := own_sle slp (fun _ => rfl) (0, 0) (rem Q who) ho2
        obtain ⟨_, _, e1, _, hw⟩ := own_sle slp (fun _ => rfl) (0, 0) Q hw7
        injection e1 with e1 e3 e2
        subst e1 e2
        have hK7 := H6.out.1.below hb7
        have hB7 := step_below H6.out.2.2 hb7
        obtain ⟨rl, hrl⟩ : ∃ rl, (rem Q who).length = rl := ⟨_, rfl⟩
        obtain ⟨ql, hqe⟩ : ∃ ql, Q.length = ql := ⟨_, rfl⟩
        rw [hrl] at hp ⊢
        rw [hqe] at hw hql ⊢
        have hrq : rl ≤ ql := by rw [← hrl, ← hqe]; exact List.length_filter_le _ _
        have H7 := Lib.hid (And.intro hrl (And.intro hqe (And.intro hp (And.intro hw (And.intro hK7 hB7)))))
        clear hrl hqe hp hw hK7 hB7 ho2 hw7 hb7 e3
        go_wp2_with fail
        obtain ⟨wo, rfl⟩ : ∃ wo : World, wo = wr := ⟨_, rfl⟩
        go_loopw [13, 14] (fun nv i wr => ∃ (j nn q : Nat), j ≤ ql ∧ i = .int .i64 j ∧ nv = .int .i64 nn ∧ nn = (rem (Q.take j) who).length ∧ wr = w7.drewN q) (fun _ i _ => ql - (intOf i).toNat)
        case atStart => exact ⟨0, 0, 0, Nat.zero_le _, rfl, rfl, rfl, rfl⟩
        case round =>
          obtain ⟨j, nn, q, hj, rfl, rfl, hnn, rfl⟩ := hrel
          have HN := Lib.hid hnn
          clear hnn
          by_cases hjq : j < ql
          · have hj0 : (0 : Int) ≤ (j : Int) := by omega
            have hj1 : (j : Int) < (ql : Int) := by omega
            obtain ⟨b, off, rfl, hb, hcc⟩ := H7.out.2.2.2.1 (by omega)
            obtain ⟨x, hx⟩ : ∃ x, Q.getD j (0, 0) = x := ⟨_, rfl⟩
            have k0 := hcc j hjq 0 (.int .i64 (Q.getD j (0, 0)).1) rfl
            have k1 := hcc j hjq 1 (.int .i64 (Q.getD j (0, 0)).2) rfl
            rw [hx] at k0 k1
            rw [Nat.add_zero] at k0
            obtain ⟨x0, x1⟩ := x
            dsimp only at k0 k1
            have HX := Lib.hid hx
            clear hcc hx
            by_cases hw : x0 = who
            · subst hw
              go_wp2
              go_roundw
              case rel => exact ⟨j + 1, nn, q, by omega, by go_num, rfl, by rw [rem_not (by rw [H7.out.2.1]; exact hjq) (by rw [HX.out])]; exact HN.out, rfl⟩
              case measure => simp [intOf]; omega
            · have hr := rem_at (Q := Q) (who := who) (j := j) (by rw [H7.out.2.1]; exact hjq) (by rw [HX.out]; exact hw)
              rw [← HN.out, H7.out.1, HX.out] at hr
              obtain ⟨r1, r2, r3⟩ := hr
              obtain ⟨b2, off2, rfl, hb2, hcc⟩ := H7.out.2.2.1 (by omega)
              have m0 := hcc nn r1 0 (.int .i64 ((rem Q who).getD nn (0, 0)).1) rfl
              have m1 := hcc nn r1 1 (.int .i64 ((rem Q who).getD nn (0, 0)).2) rfl
              rw [r2] at m0 m1
              rw [Nat.add_zero] at m0
              dsimp only at m0 m1
              have hwb : (x0 == who) = false := by simpa using hw
              have hn0 : (0 : Int) ≤ (nn : Int) := by omega
              have hn1 : (nn : Int) < (rl : Int) := by omega
              have hn2 : ¬ (rl : Int) ≤ (nn : Int) := by omega
              have hn3 : decide ((rl : Int) ≤ (nn : Int)) = false := by simpa using hn1
              have he0 : (x0 != x0) = false := by simp
              have he1 : (x1 != x1) = false := by simp
              have HR := Lib.hid r3
              clear hcc r2 r3 hw
              go_wp2
              go_quiet (fail)
              go_wp2
              go_roundw
              case rel => exact ⟨j + 1, nn + 1, _, by omega, by go_num, by go_num, HR.out.symm, rfl⟩
              case measure => simp [intOf]; omega
          · obtain rfl : ql = j := by omega
            have hj1 : ¬ (ql : Int) < (ql : Int) := by omega
            have hnr : nn = rl := by
              have h := HN.out
              rw [List.take_of_length_le (by rw [H7.out.2.1]; exact Nat.le_refl _), H7.out.1] at h
              exact h
            subst hnr
            have hne : ((nn : Int) == (nn : Int)) = true := by simp
            have cS := asleep_any kb (kb + 1) v6 (rem Q who) (by rw [H7.out.1]; omega) who (w7.drewN q) ⟨H7.out.2.2.2.2.1.blk, H7.out.2.2.2.2.1.row, H7.out.2.2.2.2.1.lt⟩
            rw [show aslp (rem Q who) who = (0, false) by unfold aslp; rw [if_neg (by rw [fnd_none rem_mem]; omega)]] at cS
            have HS9 := Lib.hid cS
            clear cS
            go_wp2_with fail
            refine HS9.out.mono ?_
            rintro e w8 ⟨rfl, hb8⟩
            have hB8 : Below w.heap.size w w8 := H7.out.2.2.2.2.2.trans ⟨hb8.os, hb8.tape, hb8.output, hb8.size, fun i hi => hb8.block i (Nat.lt_of_lt_of_le hi H7.out.2.2.2.2.2.size)⟩
            clear hb8
            go_wp2
            go_ret
            exact ⟨rfl, hB8⟩

set_option maxRecDepth 100000 in
theorem kernRouses_lifted (os : Os) (started : os.Started) (H : Type) (enc : TypeId × Value → H) :
    ReturnsInHanded {} Try.checked os 10 .any (Rows.kernRousesSpec.pre6 enc Try.prog Try.f10 Rows.kernRousesRow.domain false) (Rows.kernRousesSpec.post enc Try.prog Try.f10 false true false false) := by
  refine law_lifted started (by kernel_rfl) Try.func10
    (ChangeSpec.witness6 (enc := enc) (C := Try.checked) false ⟨#[], #[.slice none 0 0, .int .i64 0, .int .i64 0], []⟩ 8 (by kernel_rfl) (by kernel_rfl) (by kernel_rfl) (by kernel_rfl))
    4 rfl (by kernel_rfl) Try.underlying4 (fun ds h => ?_) (by kernel_rfl) ?_
  · rw [show Try.f10.params.size = 3 from by kernel_rfl] at h
    match ds, h with
    | [_, _, _], _ => rfl
  intro W base args ds p hval hA hlt hsz
  rw [Try.params10] at hA hval hsz
  obtain ⟨v0, v1, v2, d0, d1, d2, p0, p1, p2, rfl, rfl, rfl, h0, h1, h2⟩ := trodAll_three hA
  obtain ⟨A, len, cap, Z, rfl, hlc, hcm, hsl, hwz⟩ := open_sl_ints Try.underlying55 Try.underlying3 (by kernel_rfl) (hval 0 55 v0 rfl rfl) h0 (fun x hx => hlt x (by simp [hx]))
  obtain ⟨z, rfl, rfl, rfl, ws⟩ := open_int Try.underlying3 (hval 1 3 v1 rfl rfl) h1
  obtain ⟨y, rfl, rfl, rfl, ys⟩ := open_int Try.underlying3 (hval 2 3 v2 rfl rfl) h2
  by_cases h : len ≤ 300
  · exact kernRouses_true A len cap Z z y h W hsl
  · exact kernRouses_long A len cap _ _ W (by omega) (by omega)

theorem kernRouses_holds : Rows.KernRousesSaid :=
  OpenClaim.holds_of_wide 10 Try.f10 rfl rfl rfl rfl rfl rfl rfl ⟨rfl, rfl, rfl, rfl, rfl⟩ rfl rfl rfl rfl rfl (by kernel_rfl) Try.func10 (by kernel_rfl)
    (of_decide_eq_true (by kernel_rfl)) (by unfold Func.isWrapper; first | (rw [if_pos (by decide +kernel)]; kernel_rfl) | (rw [if_neg (by decide +kernel)]; exact ⟨rfl, rfl⟩))
    (fun os started H enc _ => kernRouses_lifted os started H enc)
end Go.Proofs.Ytaanmamgmjhegaa
