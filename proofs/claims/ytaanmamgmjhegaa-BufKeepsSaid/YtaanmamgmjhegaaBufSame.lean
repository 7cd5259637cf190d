/- The law's 'same' of equal rows of entries; the document's Find. -/
import Derived.Test.YtaanmamgmjhegaaBufEnts
namespace Go.Proofs.Ytaanmamgmjhegaa
open Go.ChangeShapes Go.WideShapes Go.ChangeAt Go.RowKit Go.Deep
set_option linter.unusedVariables false
set_option linter.unusedSimpArgs false

theorem same_yes (A A' : Option Addr) (n cap cap' : Nat) (E : Nat → Ent) (hn : n ≤ 1000000) (w : World) (h : SlE w A n 2 (fun i => entV (E i))) (h' : SlE w A' n 2 (fun i => entV (E i))) :
    Calls Try.prog 19 #[.slice A n cap, .slice A' n cap'] w fun e w' => e = .returned (.bool true) ∧ ∃ q, w' = w.drewN q := by
  have H := Lib.hid (And.intro h h')
  clear h h'
  have hne : ((n : Int) != (n : Int)) = false := by simp
  go_enter Try.func19, Try.ntmps19
  go_wp2
  go_loopw [5] (fun i wr => ∃ k : Nat, k ≤ n ∧ i = .int .i64 k ∧ ∃ q, wr = w.drewN q) (fun i _ => n - (intOf i).toNat)
  case atStart => exact ⟨0, Nat.zero_le _, rfl, 0, rfl⟩
  case round =>
    obtain ⟨k, hk, rfl, q, rfl⟩ := hrel
    by_cases hkn : k < n
    · obtain ⟨b, off, rfl, hb, hc⟩ := H.out.1 (by omega)
      obtain ⟨b', off', rfl, hb', hc'⟩ := H.out.2 (by omega)
      have k0 : w.cell? ⟨b, off + k * 2, none⟩ = some (.int .i64 (E k).1) := hc k hkn 0 _ rfl
      have k1 : w.cell? ⟨b, off + k * 2 + 1, none⟩ = some (.int .u32 (E k).2) := hc k hkn 1 _ rfl
      have j0 : w.cell? ⟨b', off' + k * 2, none⟩ = some (.int .i64 (E k).1) := hc' k hkn 0 _ rfl
      have j1 : w.cell? ⟨b', off' + k * 2 + 1, none⟩ = some (.int .u32 (E k).2) := hc' k hkn 1 _ rfl
      have hk0 : (0 : Int) ≤ (k : Int) := by omega
      have hk1 : (k : Int) < (n : Int) := by omega
      clear hc hc'
      go_wp2
      go_quiet (fail)
      go_wp2
      go_roundw
      case rel => exact ⟨k + 1, by omega, by go_num, _, rfl⟩
      case measure => simp [intOf]; omega
    · obtain rfl : n = k := by omega
      have hk1 : ¬ (n : Int) < (n : Int) := by omega
      go_wp2
      go_ret
      exact ⟨rfl, _, rfl⟩

theorem getD_snoc_lt {l : List Ent} {x : Ent} {j : Nat} (h : j < l.length) : (l ++ [x]).getD j (0, 0) = l.getD j (0, 0) := by
  simp only [List.getD_eq_getElem?_getD, List.getElem?_append_left h]
theorem getD_snoc_eq {l : List Ent} {x : Ent} : (l ++ [x]).getD l.length (0, 0) = x := by simp [List.getD_eq_getElem?_getD]
theorem findP_hit (l : List Ent) (x : Ent) : FindP (l ++ [x]) x.1 x.2 true := by
  have := FindP.hit (l := l ++ [x]) (a := x.1) l.length (by simp) (by rw [getD_snoc_eq]) (fun j h1 h2 => by simp at h2; omega)
  rwa [getD_snoc_eq] at this
theorem findP_keep {l : List Ent} {x : Ent} {a v : Int} {b : Bool} (h : FindP l a v b) (hx : x.1 ≠ a) : FindP (l ++ [x]) a v b := by
  cases h with
  | hit i hi h1 h2 =>
    have := FindP.hit (l := l ++ [x]) (a := a) i (by simp; omega) (by rw [getD_snoc_lt hi]; exact h1) (fun j h3 h4 => by
      simp at h4
      rcases (by omega : j < l.length ∨ j = l.length) with h5 | rfl
      · rw [getD_snoc_lt h5]; exact h2 j h3 h5
      · rw [getD_snoc_eq]; exact hx)
    rwa [getD_snoc_lt hi] at this
  | miss h1 =>
    refine .miss fun j h4 => ?_
    simp at h4
    rcases (by omega : j < l.length ∨ j = l.length) with h5 | rfl
    · rw [getD_snoc_lt h5]; exact h1 j h5
    · rw [getD_snoc_eq]; exact hx
theorem findP_one {l : List Ent} {a v v' : Int} {b b' : Bool} (h : FindP l a v b) (h' : FindP l a v' b') : v = v' ∧ b = b' := by
  cases h with
  | hit i hi h1 h2 =>
    cases h' with
    | hit j hj h3 h4 =>
      rcases (by omega : i < j ∨ i = j ∨ j < i) with h5 | rfl | h5
      · exact absurd h3 (h2 j h5 hj)
      · exact ⟨rfl, rfl⟩
      · exact absurd h1 (h4 i h5 hi)
    | miss h3 => exact absurd h1 (h3 i hi)
  | miss h1 =>
    cases h' with
    | hit j hj h3 h4 => exact absurd h3 (h1 j hj)
    | miss _ => exact ⟨rfl, rfl⟩
theorem take_snoc (l : List Ent) (k : Nat) (h : k < l.length) : l.take (k + 1) = l.take k ++ [l.getD k (0, 0)] := by
  rw [List.take_succ_eq_append_getElem h]
  simp [List.getD_eq_getElem?_getD, List.getElem?_eq_getElem h]

theorem refFind_any (A : Option Addr) (cap : Nat) (l : List Ent) (hn : l.length ≤ 1000000) (a v : Int) (is : Bool) (hF : FindP l a v is) (w : World) (h : SlE w A l.length 2 (fun i => entV (l.getD i (0, 0)))) :
    Calls Try.prog 18 #[.slice A l.length cap, .int .i64 a] w fun e w' => e = .returned (.tuple #[.int .u32 v, .int .i64 (if is = true then 1 else 0)]) ∧ w = w' := by
  have H := Lib.hid h
  have HF := Lib.hid hF
  clear h hF
  go_enter Try.func18, Try.ntmps18
  go_wp2
  go_loopw [6, 7, 8] (fun s t i wr => ∃ (k : Nat) (vv : Int) (bb : Bool), k ≤ l.length ∧ i = .int .i64 k ∧ s = .int .u32 vv ∧ t = .int .i64 (if bb = true then 1 else 0) ∧ FindP (l.take k) a vv bb ∧ wr = w) (fun _ _ i _ => l.length - (intOf i).toNat)
  case atStart => exact ⟨0, 0, false, Nat.zero_le _, rfl, rfl, rfl, .miss fun j hj => absurd hj (by simp), rfl⟩
  case round =>
    obtain ⟨k, vv, bb, hk, rfl, rfl, rfl, hP, rfl⟩ := hrel
    by_cases hkn : k < l.length
    · obtain ⟨b, off, rfl, hb, hc⟩ := H.out (by omega)
      have hc0 := hc k hkn 0 _ rfl
      have hc1 := hc k hkn 1 _ rfl
      have hk0 : (0 : Int) ≤ (k : Int) := by omega
      have hk1 : (k : Int) < (l.length : Int) := by omega
      have hT := take_snoc l k hkn
      generalize l.getD k (0, 0) = z at hc0 hc1 hT
      have k0 : wr.cell? ⟨b, off + k * 2, none⟩ = some (.int .i64 z.1) := hc0
      have k1 : wr.cell? ⟨b, off + k * 2 + 1, none⟩ = some (.int .u32 z.2) := hc1
      have HT := Lib.hid hT
      have HP := Lib.hid hP
      clear hc hc0 hc1 hT hP
      by_cases hza : z.1 = a
      · have hab : (z.1 == a) = true := by rw [beq_iff_eq]; exact hza
        have HA := Lib.hid hza
        clear hza
        go_wp2
        go_roundw
        case rel => exact ⟨k + 1, z.2, true, by omega, by go_num, rfl, rfl, by rw [HT.out, ← HA.out]; exact findP_hit _ _, by trivial⟩
        case measure => simp [intOf]; omega
      · have hab : (z.1 == a) = false := by rw [beq_eq_false_iff_ne]; exact hza
        have HA := Lib.hid hza
        clear hza
        go_wp2
        go_roundw
        case rel => exact ⟨k + 1, vv, bb, by omega, by go_num, rfl, rfl, by rw [HT.out]; exact findP_keep HP.out HA.out, by trivial⟩
        case measure => simp [intOf]; omega
    · obtain rfl : k = l.length := by omega
      have hk1 : ¬ (l.length : Int) < (l.length : Int) := by omega
      rw [List.take_length] at hP
      obtain ⟨rfl, rfl⟩ := findP_one hP HF.out
      clear hP
      cases bb
      · go_wp2
        go_ret2
        exact ⟨rfl, rfl⟩
      · go_wp2
        go_ret2
        exact ⟨rfl, rfl⟩
end Go.Proofs.Ytaanmamgmjhegaa
