/- Reading by places, with no length: where a code ends, which program stands there; the bytes of that program; the program of a program's bytes. -/
import Derived.Test.YtlmhifnanhkcnaaDoorCodePg
import Derived.Test.YtlmhifnanhkcnaaDoorCodeWrite
namespace Go.Proofs.YtlmhifnanhkcnaaDoor
open Go.RowKit
set_option linter.unusedVariables false
set_option linter.unusedSimpArgs false

def codeEnd (Z : Nat → Int) (i : Nat) : Nat := i + 2 + 8 * (numAt Z i 2).toNat
def codePos (Z : Nat → Int) (a : Nat) : Nat → Nat
  | 0 => a
  | t + 1 => codeEnd Z (codePos Z a t)
def insAt (Z : Nat → Int) (i : Nat) : Ins := ⟨Z i, Z (i + 1), Z (i + 2), Z (i + 3), numAt Z (i + 4) 4⟩
def cdAt (Z : Nat → Int) (i : Nat) : Cd := ⟨none, (numAt Z i 2).toNat, (numAt Z i 2).toNat, fun j => insAt Z (i + 2 + 8 * j)⟩
def memN (Z : Nat → Int) : Nat := (numAt Z 5 2).toNat
def endZ (Z : Nat → Int) : Nat := codePos Z (7 + 4 * memN Z) (Z 3).toNat
def PgZ (Z : Nat → Int) : Pg := ⟨none, (Z 3).toNat, (Z 3).toNat, fun t => cdAt Z (codePos Z (7 + 4 * memN Z) t), none, memN Z, memN Z, fun i => numAt Z (7 + 4 * i) 4, Z 4⟩

section
variable {Z : Nat → Int} {len : Nat}
theorem codePos_shift (i t : Nat) : codePos Z (codeEnd Z i) t = codePos Z i (t + 1) := by
  induction t with
  | zero => rfl
  | succ t ih => show codeEnd Z (codePos Z (codeEnd Z i) t) = codeEnd Z (codePos Z i (t + 1)); rw [ih]
theorem codeEnd_le (i : Nat) : i + 2 ≤ codeEnd Z i := by unfold codeEnd; omega
theorem codePos_le (i t : Nat) : i ≤ codePos Z i t := by
  induction t with
  | zero => exact Nat.le_refl _
  | succ t ih => have := codeEnd_le (Z := Z) (codePos Z i t); show i ≤ codeEnd Z _; omega
theorem codePos_mono (i : Nat) {s t : Nat} (h : s ≤ t) : codePos Z i s ≤ codePos Z i t := by
  induction t with
  | zero => obtain rfl : s = 0 := by omega
            exact Nat.le_refl _
  | succ t ih =>
    rcases (by omega : s = t + 1 ∨ s ≤ t) with rfl | h
    · exact Nat.le_refl _
    · have := ih h
      have h2 := codeEnd_le (Z := Z) (codePos Z i t)
      show _ ≤ codeEnd Z _
      omega
theorem endZ_ge : 7 + 4 * memN Z ≤ endZ Z := codePos_le _ _

theorem ws_sh (k i : Nat) : ws Z len k (i, true) = (i, true) := by cases k <;> simp [ws]
theorem is_sh (k i : Nat) : is_ Z len k (i, true) = (i, true) := by cases k <;> simp [is_]
theorem ps_sh (k i : Nat) : ps Z len k (i, true) = (i, true) := by cases k <;> simp [ps]
theorem ws_ok (k : Nat) : ∀ i, i + 4 * k ≤ len → ws Z len k (i, false) = (i + 4 * k, false) ∧ wl Z len k (i, false) = (List.range k).map (fun j => numAt Z (i + 4 * j) 4) := by
  induction k with
  | zero => intro i _; exact ⟨rfl, rfl⟩
  | succ k ih =>
    intro i h
    obtain ⟨h1, h2⟩ := ih (i + 4) (by omega)
    simp only [ws, wl, Bool.false_eq_true, if_false]
    rw [rstep_ok (by omega), rval_ok (by omega), h1, h2, List.range_succ_eq_map, List.map_cons, List.map_map]
    refine ⟨by congr 1; omega, ?_⟩
    congr 1
    apply List.map_congr_left
    intro j _
    show numAt Z (i + 4 + 4 * j) 4 = numAt Z (i + 4 * (j + 1)) 4
    congr 1
    omega
theorem ws_over (k : Nat) : ∀ i, i ≤ len → len < i + 4 * k → (ws Z len k (i, false)).2 = true := by
  induction k with
  | zero => intro i h1 h2; omega
  | succ k ih =>
    intro i h1 h2
    simp only [ws, Bool.false_eq_true, if_false]
    by_cases h4 : i + 4 ≤ len
    · rw [rstep_ok h4]
      exact ih (i + 4) h4 (by omega)
    · rw [rstep_over (by omega), ws_sh]
theorem insOf_at (i : Nat) (h : i + 8 ≤ len) : insOf Z len (i, false) = insAt Z i := by
  have e1 : rstep Z len 1 (i, false) = (i + 1, false) := rstep_ok (by omega)
  have e2 : rstep Z len 1 (i + 1, false) = (i + 2, false) := rstep_ok (by omega)
  have e3 : rstep Z len 1 (i + 2, false) = (i + 3, false) := rstep_ok (by omega)
  have e4 : rstep Z len 1 (i + 3, false) = (i + 4, false) := rstep_ok (by omega)
  unfold insOf insAt
  rw [e1, e2, e3, e4, rval_ok (by omega), rval_ok (by omega), rval_ok (by omega), rval_ok (by omega), rval_ok (by omega), numAt_one, numAt_one, numAt_one, numAt_one]
theorem is_ok (k : Nat) : ∀ i, i + 8 * k ≤ len → is_ Z len k (i, false) = (i + 8 * k, false) ∧ il Z len k (i, false) = (List.range k).map (fun j => insAt Z (i + 8 * j)) := by
  induction k with
  | zero => intro i _; exact ⟨rfl, rfl⟩
  | succ k ih =>
    intro i h
    obtain ⟨h1, h2⟩ := ih (i + 8) (by omega)
    simp only [is_, il, Bool.false_eq_true, if_false]
    rw [(rinstr_ok (by omega)).1, insOf_at i (by omega), h1, h2, List.range_succ_eq_map, List.map_cons, List.map_map]
    refine ⟨by congr 1; omega, ?_⟩
    congr 1
    apply List.map_congr_left
    intro j _
    show insAt Z (i + 8 + 8 * j) = insAt Z (i + 8 * (j + 1))
    congr 1
    omega
theorem is_true (k : Nat) (s : Nat × Bool) (h : s.2 = true) : (is_ Z len k s).2 = true := by
  obtain ⟨i, b⟩ := s
  obtain rfl : b = true := h
  rw [is_sh]
theorem is_over (k : Nat) : ∀ i, i ≤ len → len < i + 8 * k → (is_ Z len k (i, false)).2 = true := by
  induction k with
  | zero => intro i h1 h2; omega
  | succ k ih =>
    intro i h1 h2
    simp only [is_, Bool.false_eq_true, if_false]
    by_cases h4 : i + 8 ≤ len
    · rw [(rinstr_ok h4).1]
      exact ih (i + 8) h4 (by omega)
    · exact is_true k _ (rinstr_over (by omega) h1)
theorem code_ok (i : Nat) (h : codeEnd Z i ≤ len) : codeS Z len (i, false) = (codeEnd Z i, false) ∧ codeL Z len (i, false) = (List.range (cdAt Z i).len).map (cdAt Z i).F := by
  have h2 := codeEnd_le (Z := Z) i
  obtain ⟨e1, e2⟩ := is_ok (Z := Z) (len := len) (numAt Z i 2).toNat (i + 2) h
  unfold codeS codeL
  rw [rstep_ok (by omega), rval_ok (by omega), e1, e2]
  exact ⟨rfl, rfl⟩
theorem code_over (i : Nat) (hi : i ≤ len) (h : len < codeEnd Z i) : (codeS Z len (i, false)).2 = true := by
  unfold codeS
  by_cases h2 : i + 2 ≤ len
  · rw [rstep_ok h2, rval_ok h2]
    exact is_over _ _ h2 h
  · rw [rstep_over (by omega), is_sh]
theorem ps_true (k : Nat) (s : Nat × Bool) (h : s.2 = true) : (ps Z len k s).2 = true := by
  obtain ⟨i, b⟩ := s
  obtain rfl : b = true := h
  rw [ps_sh]
theorem ps_ok (k : Nat) : ∀ i, codePos Z i k ≤ len →
    ps Z len k (i, false) = (codePos Z i k, false) ∧ pl Z len k (i, false) = (List.range k).map (fun t => (List.range (cdAt Z (codePos Z i t)).len).map (cdAt Z (codePos Z i t)).F) := by
  induction k with
  | zero => intro i _; exact ⟨rfl, rfl⟩
  | succ k ih =>
    intro i h
    rw [← codePos_shift] at h
    obtain ⟨h1, h2⟩ := ih (codeEnd Z i) h
    obtain ⟨c1, c2⟩ := code_ok (Z := Z) (len := len) i (Nat.le_trans (codePos_le _ _) h)
    simp only [ps, pl, Bool.false_eq_true, if_false]
    rw [c1, c2, h1, h2, List.range_succ_eq_map, List.map_cons, List.map_map, codePos_shift]
    refine ⟨rfl, ?_⟩
    congr 1
    apply List.map_congr_left
    intro j _
    show (List.range (cdAt Z (codePos Z (codeEnd Z i) j)).len).map _ = (List.range (cdAt Z (codePos Z i (j + 1))).len).map _
    rw [codePos_shift]
theorem ps_over (k : Nat) : ∀ i, i ≤ len → len < codePos Z i k → (ps Z len k (i, false)).2 = true := by
  induction k with
  | zero => intro i h1 h2; exact absurd h2 (by show ¬ len < i; omega)
  | succ k ih =>
    intro i h1 h2
    simp only [ps, Bool.false_eq_true, if_false]
    by_cases h4 : codeEnd Z i ≤ len
    · rw [(code_ok i h4).1]
      exact ih _ h4 (by rw [codePos_shift]; exact h2)
    · exact ps_true k _ (code_over i h1 (by omega))

theorem getD_map_range {α : Type} (f : Nat → α) (n i : Nat) (d : α) (h : i < n) : ((List.range n).map f).getD i d = f i := by
  simp [List.getD_eq_getElem?_getD, List.getElem?_range h]

theorem st4_ok (h : endZ Z ≤ len) : st4 Z len = (endZ Z, false) ∧ Rep (rdP Z len) (PgZ Z) := by
  have h7 := endZ_ge (Z := Z)
  have e1 : st1 Z len = (4, false) := rstep_ok (by omega)
  have e2 : st2 Z len = (5, false) := by unfold st2; rw [e1]; exact rstep_ok (by omega)
  have hw := ws_ok (Z := Z) (len := len) (memN Z) 7 (by omega)
  have e3 : st3 Z len = (7 + 4 * memN Z, false) := by
    unfold st3 wordsS
    rw [e2, rstep_ok (by omega), rval_ok (by omega)]
    exact hw.1
  have eN : rdN Z len = (Z 3).toNat := by unfold rdN; rw [rval_ok (by omega), numAt_one]
  have hp := ps_ok (Z := Z) (len := len) (Z 3).toNat (7 + 4 * memN Z) h
  have eM : wordsL Z len (st2 Z len) = (List.range (memN Z)).map (fun j => numAt Z (7 + 4 * j) 4) := by
    unfold wordsL
    rw [e2, rstep_ok (by omega), rval_ok (by omega)]
    exact hw.2
  have eR : rval Z len 1 (st1 Z len) = Z 4 := by rw [e1, rval_ok (by omega), numAt_one]
  constructor
  · unfold st4
    rw [e3, eN]
    exact hp.1
  · unfold rdP
    rw [eM, eR, e3, eN, hp.2]
    have hcd : ∀ t, t < (Z 3).toNat → ((List.range (Z 3).toNat).map (fun t => (List.range (cdAt Z (codePos Z (7 + 4 * memN Z) t)).len).map (cdAt Z (codePos Z (7 + 4 * memN Z) t)).F)).getD t [] = (List.range (cdAt Z (codePos Z (7 + 4 * memN Z) t)).len).map (cdAt Z (codePos Z (7 + 4 * memN Z) t)).F :=
      fun t ht => getD_map_range _ _ _ _ ht
    have hn : (absOf ((List.range (Z 3).toNat).map (fun t => (List.range (cdAt Z (codePos Z (7 + 4 * memN Z) t)).len).map (cdAt Z (codePos Z (7 + 4 * memN Z) t)).F)) ((List.range (memN Z)).map (fun j => numAt Z (7 + 4 * j) 4)) (Z 4)).n = (Z 3).toNat := by simp [absOf]
    refine ⟨hn, by simp [absOf, PgZ], rfl, fun t ht => ?_, fun t ht i hi => ?_, fun i hi => ?_⟩
    · rw [hn] at ht
      show (List.getD _ t []).length = (cdAt Z (codePos Z (7 + 4 * memN Z) t)).len
      rw [hcd t ht]
      simp
    · rw [hn] at ht
      have hi' : i < (cdAt Z (codePos Z (7 + 4 * memN Z) t)).len := by
        have h2 : i < (List.getD ((List.range (Z 3).toNat).map (fun t => (List.range (cdAt Z (codePos Z (7 + 4 * memN Z) t)).len).map (cdAt Z (codePos Z (7 + 4 * memN Z) t)).F)) t []).length := hi
        rw [hcd t ht] at h2
        simpa using h2
      show (List.getD _ t []).getD i default = (cdAt Z (codePos Z (7 + 4 * memN Z) t)).F i
      rw [hcd t ht]
      exact getD_map_range _ _ _ _ hi'
    · have hi' : i < memN Z := by simpa [absOf] using hi
      exact getD_map_range _ _ _ _ hi'
theorem st4_no (h3 : 3 ≤ len) (h : len < endZ Z) : (st4 Z len).2 = true := by
  unfold st4
  by_cases h4 : 4 ≤ len
  · have e1 : st1 Z len = (4, false) := rstep_ok (by omega)
    by_cases h5 : 5 ≤ len
    · have e2 : st2 Z len = (5, false) := by unfold st2; rw [e1]; exact rstep_ok (by omega)
      by_cases h7 : 7 ≤ len
      · by_cases hw : 7 + 4 * memN Z ≤ len
        · have e3 : st3 Z len = (7 + 4 * memN Z, false) := by
            unfold st3 wordsS
            rw [e2, rstep_ok (by omega), rval_ok (by omega)]
            exact (ws_ok (memN Z) 7 hw).1
          have eN : rdN Z len = (Z 3).toNat := by unfold rdN; rw [rval_ok (by omega), numAt_one]
          rw [e3, eN]
          exact ps_over _ _ hw h
        · refine ps_true _ _ ?_
          unfold st3 wordsS
          rw [e2, rstep_ok (by omega), rval_ok (by omega)]
          exact ws_over _ _ (by omega) (by show len < 7 + 4 * memN Z; omega)
      · refine ps_true _ _ ?_
        unfold st3 wordsS
        rw [e2, rstep_over (by omega), ws_sh]
    · refine ps_true _ _ ?_
      have e2 : st2 Z len = (4, true) := by unfold st2; rw [e1]; exact rstep_over (by omega)
      unfold st3 wordsS
      rw [e2, rstep_sh, ws_sh]
  · refine ps_true _ _ ?_
    have e1 : st1 Z len = (3, true) := rstep_over (by omega)
    have e2 : st2 Z len = (3, true) := by unfold st2; rw [e1]; exact rstep_sh
    unfold st3 wordsS
    rw [e2, rstep_sh, ws_sh]

/-- From a place on these bytes stand. -/
def Zat (Z : Nat → Int) (a : Nat) (M : List Int) : Prop := ∀ i, i < M.length → Z (a + i) = M.getD i 0
theorem zat_app (a : Nat) (M N : List Int) : Zat Z a (M ++ N) ↔ Zat Z a M ∧ Zat Z (a + M.length) N := by
  constructor
  · intro h
    refine ⟨fun i hi => ?_, fun i hi => ?_⟩
    · rw [h i (by rw [List.length_append]; omega)]
      simp [List.getD_eq_getElem?_getD, List.getElem?_append_left hi]
    · rw [Nat.add_assoc, h (M.length + i) (by rw [List.length_append]; omega)]
      simp [List.getD_eq_getElem?_getD, List.getElem?_append_right (Nat.le_add_right _ _)]
  · rintro ⟨h1, h2⟩ i hi
    rcases Nat.lt_or_ge i M.length with h | h
    · rw [h1 i h]
      simp [List.getD_eq_getElem?_getD, List.getElem?_append_left h]
    · have := h2 (i - M.length) (by rw [List.length_append] at hi; omega)
      rw [Nat.add_assoc, Nat.add_sub_cancel' h] at this
      rw [this]
      simp [List.getD_eq_getElem?_getD, List.getElem?_append_right h]
theorem numAt_two (a : Nat) : numAt Z a 2 = Z a + 256 * Z (a + 1) := by simp [numAt]
theorem numAt_four (a : Nat) : numAt Z a 4 = Z a + 256 * (Z (a + 1) + 256 * (Z (a + 2) + 256 * Z (a + 3))) := by simp [numAt, Nat.add_assoc]
theorem zat_two (a : Nat) (h0 : 0 ≤ Z a ∧ Z a ≤ 255) (h1 : 0 ≤ Z (a + 1) ∧ Z (a + 1) ≤ 255) : Zat Z a (twoB (numAt Z a 2)) := by
  rw [numAt_two]
  intro i hi
  rcases i with _ | _ | i
  · show Z a = (Z a + 256 * Z (a + 1)) % 256; omega
  · show Z (a + 1) = (Z a + 256 * Z (a + 1)) / 256; omega
  · exact absurd hi (by show ¬ (i + 1 + 1 < 2); omega)
theorem two_zat (a : Nat) (n : Int) (h : Zat Z a (twoB n)) : numAt Z a 2 = n := by
  have h0 : Z (a + 0) = n % 256 := h 0 (by show 0 < 2; omega)
  have h1 : Z (a + 1) = n / 256 := h 1 (by show 1 < 2; omega)
  rw [numAt_two]
  rw [Nat.add_zero] at h0
  omega
theorem zat_w (a : Nat) (h : ∀ i, i < 4 → 0 ≤ Z (a + i) ∧ Z (a + i) ≤ 255) : Zat Z a (wB (numAt Z a 4)) := by
  have h0 := h 0 (by omega)
  have h1 := h 1 (by omega)
  have h2 := h 2 (by omega)
  have h3 := h 3 (by omega)
  rw [Nat.add_zero] at h0
  rw [numAt_four]
  intro i hi
  rcases i with _ | _ | _ | _ | i
  · show Z a = (Z a + 256 * (Z (a + 1) + 256 * (Z (a + 2) + 256 * Z (a + 3)))) % 256; omega
  · show Z (a + 1) = (Z a + 256 * (Z (a + 1) + 256 * (Z (a + 2) + 256 * Z (a + 3)))) / 256 % 256; omega
  · show Z (a + 2) = (Z a + 256 * (Z (a + 1) + 256 * (Z (a + 2) + 256 * Z (a + 3)))) / 65536 % 256; omega
  · show Z (a + 3) = (Z a + 256 * (Z (a + 1) + 256 * (Z (a + 2) + 256 * Z (a + 3)))) / 16777216; omega
  · exact absurd hi (by show ¬ (i + 1 + 1 + 1 + 1 < 4); omega)
theorem w_zat (a : Nat) (n : Int) (h : Zat Z a (wB n)) : numAt Z a 4 = n := by
  have h0 : Z (a + 0) = n % 256 := h 0 (by show 0 < 4; omega)
  have h1 : Z (a + 1) = n / 256 % 256 := h 1 (by show 1 < 4; omega)
  have h2 : Z (a + 2) = n / 65536 % 256 := h 2 (by show 2 < 4; omega)
  have h3 : Z (a + 3) = n / 16777216 := h 3 (by show 3 < 4; omega)
  rw [Nat.add_zero] at h0
  rw [numAt_four]
  omega
theorem insB_eq (q : Ins) : insB q = [q.op, q.a, q.b, q.c] ++ wB q.k := rfl
theorem zat_ins (a : Nat) (h : ∀ i, i < 8 → 0 ≤ Z (a + i) ∧ Z (a + i) ≤ 255) : Zat Z a (insB (insAt Z a)) := by
  rw [insB_eq, zat_app]
  refine ⟨fun i hi => ?_, zat_w _ fun i hi => ?_⟩
  · rcases i with _ | _ | _ | _ | i
    · rfl
    · rfl
    · rfl
    · rfl
    · exact absurd hi (by show ¬ (i + 1 + 1 + 1 + 1 < 4); omega)
  · rw [Nat.add_assoc]
    exact h (4 + i) (by omega)
theorem ins_zat (a : Nat) (q : Ins) (h : Zat Z a (insB q)) : insAt Z a = q := by
  rw [insB_eq, zat_app] at h
  obtain ⟨h1, h2⟩ := h
  have hk : numAt Z (a + 4) 4 = q.k := w_zat _ _ h2
  have h0 : Z (a + 0) = q.op := h1 0 (by show 0 < 4; omega)
  have h1' : Z (a + 1) = q.a := h1 1 (by show 1 < 4; omega)
  have h2' : Z (a + 2) = q.b := h1 2 (by show 2 < 4; omega)
  have h3 : Z (a + 3) = q.c := h1 3 (by show 3 < 4; omega)
  rw [Nat.add_zero] at h0
  unfold insAt
  rw [hk, h0, h1', h2', h3]
theorem zat_mem (F : Nat → Int) (k a : Nat) : Zat Z a (memB F k) ↔ ∀ i, i < k → Zat Z (a + 4 * i) (wB (F i)) := by
  induction k with
  | zero => exact ⟨fun _ i hi => absurd hi (by omega), fun _ i hi => absurd hi (by show ¬ i < 0; omega)⟩
  | succ k ih =>
    rw [memB_succ, zat_app, memB_len, ih]
    constructor
    · rintro ⟨h1, h2⟩ i hi
      rcases (by omega : i < k ∨ i = k) with h | rfl
      · exact h1 i h
      · exact h2
    · intro h
      exact ⟨fun i hi => h i (by omega), h k (by omega)⟩
theorem zat_cod (F : Nat → Ins) (k a : Nat) : Zat Z a (codB F k) ↔ ∀ i, i < k → Zat Z (a + 8 * i) (insB (F i)) := by
  induction k with
  | zero => exact ⟨fun _ i hi => absurd hi (by omega), fun _ i hi => absurd hi (by show ¬ i < 0; omega)⟩
  | succ k ih =>
    rw [codB_succ, zat_app, codB_len, ih]
    constructor
    · rintro ⟨h1, h2⟩ i hi
      rcases (by omega : i < k ∨ i = k) with h | rfl
      · exact h1 i h
      · exact h2
    · intro h
      exact ⟨fun i hi => h i (by omega), h k (by omega)⟩
theorem zat_codes (cd : Nat → Cd) (t a : Nat) : Zat Z a (codesB cd t) ↔ ∀ s, s < t → Zat Z (a + (codesB cd s).length) (twoB (cd s).len ++ codB (cd s).F (cd s).len) := by
  induction t with
  | zero => exact ⟨fun _ i hi => absurd hi (by omega), fun _ i hi => absurd hi (by show ¬ i < 0; omega)⟩
  | succ t ih =>
    rw [codesB_succ, zat_app, ih]
    constructor
    · rintro ⟨h1, h2⟩ i hi
      rcases (by omega : i < t ∨ i = t) with h | rfl
      · exact h1 i h
      · exact h2
    · intro h
      exact ⟨fun i hi => h i (by omega), h t (by omega)⟩
theorem codesB_step (cd : Nat → Cd) (t : Nat) : (codesB cd (t + 1)).length = (codesB cd t).length + (2 + 8 * (cd t).len) := by
  rw [codesB_succ, List.length_append, List.length_append, codB_len]
  rfl
theorem wrB_len (p : Pg) : (wrB p).length = 7 + 4 * p.m + (codesB p.cd p.n).length := by
  unfold wrB
  rw [List.length_append, List.length_append, List.length_append, memB_len]
  rfl
theorem pgZ_pos (t : Nat) : 7 + 4 * memN Z + (codesB (PgZ Z).cd t).length = codePos Z (7 + 4 * memN Z) t := by
  induction t with
  | zero => rfl
  | succ t ih =>
    rw [codesB_step]
    show _ = codeEnd Z (codePos Z (7 + 4 * memN Z) t)
    rw [← ih]
    unfold codeEnd
    rw [ih]
    show _ + (_ + (2 + 8 * (numAt Z (codePos Z (7 + 4 * memN Z) t) 2).toNat)) = _
    omega
theorem wrB_len_pgZ : (wrB (PgZ Z)).length = endZ Z := by
  rw [wrB_len]
  exact pgZ_pos _
theorem zat_wr (p : Pg) : Zat Z 0 (wrB p) ↔ (Zat Z 0 [100, 108, 49, (p.n : Int), p.room] ∧ Zat Z 5 (twoB p.m) ∧ Zat Z 7 (memB p.Z p.m) ∧ Zat Z (7 + 4 * p.m) (codesB p.cd p.n)) := by
  unfold wrB
  rw [zat_app, zat_app, zat_app, List.length_append, List.length_append, memB_len]
  constructor
  · rintro ⟨⟨⟨h1, h2⟩, h3⟩, h4⟩
    refine ⟨h1, h2, h3, ?_⟩
    have e : 0 + (5 + 2 + 4 * p.m) = 7 + 4 * p.m := by omega
    rw [← e]
    exact h4
  · rintro ⟨h1, h2, h3, h4⟩
    refine ⟨⟨⟨h1, h2⟩, h3⟩, ?_⟩
    have e : 0 + (5 + 2 + 4 * p.m) = 7 + 4 * p.m := by omega
    rw [← e] at h4
    exact h4

/-- The bytes of the program read are the bytes. -/
theorem wr_of (hb : ∀ i, i < endZ Z → 0 ≤ Z i ∧ Z i ≤ 255) (hh : headZ Z) : Zat Z 0 (wrB (PgZ Z)) := by
  have h7 := endZ_ge (Z := Z)
  obtain ⟨z0, z1, z2⟩ := hh
  have b3 := hb 3 (by omega)
  have b5 := hb 5 (by omega)
  have b6 := hb 6 (by omega)
  have n5 : ((memN Z : Nat) : Int) = numAt Z 5 2 := by
    have : 0 ≤ numAt Z 5 2 := by rw [numAt_two]; show 0 ≤ Z 5 + 256 * Z 6; omega
    unfold memN; omega
  rw [zat_wr]
  refine ⟨fun i hi => ?_, ?_, ?_, ?_⟩
  · rcases i with _ | _ | _ | _ | _ | i
    · exact z0
    · exact z1
    · exact z2
    · show Z 3 = (((Z 3).toNat : Nat) : Int); omega
    · rfl
    · exact absurd hi (by show ¬ (i + 1 + 1 + 1 + 1 + 1 < 5); omega)
  · show Zat Z 5 (twoB ((memN Z : Nat) : Int))
    rw [n5]
    exact zat_two 5 b5 b6
  · rw [zat_mem]
    intro i hi
    exact zat_w _ fun j hj => hb _ (by have : i < memN Z := hi; omega)
  · rw [zat_codes]
    intro s hs
    show Zat Z (7 + 4 * memN Z + _) _
    rw [pgZ_pos]
    have hle : codePos Z (7 + 4 * memN Z) (s + 1) ≤ endZ Z := codePos_mono _ (show s + 1 ≤ (Z 3).toNat from hs)
    have hce : codeEnd Z (codePos Z (7 + 4 * memN Z) s) ≤ endZ Z := hle
    show Zat Z _ (twoB (((numAt Z (codePos Z (7 + 4 * memN Z) s) 2).toNat : Nat) : Int) ++ codB (fun j => insAt Z (codePos Z (7 + 4 * memN Z) s + 2 + 8 * j)) (numAt Z (codePos Z (7 + 4 * memN Z) s) 2).toNat)
    generalize codePos Z (7 + 4 * memN Z) s = q at hce
    have h2 := codeEnd_le (Z := Z) q
    have bq := hb q (by omega)
    have bq1 := hb (q + 1) (by omega)
    have nq : (((numAt Z q 2).toNat : Nat) : Int) = numAt Z q 2 := by
      have : 0 ≤ numAt Z q 2 := by rw [numAt_two]; omega
      omega
    unfold codeEnd at hce
    rw [zat_app]
    refine ⟨by rw [nq]; exact zat_two q bq bq1, ?_⟩
    rw [zat_cod]
    intro i hi
    exact zat_ins _ fun j hj => hb _ (by show q + 2 + 8 * i + j < _; omega)

/-- The program read of a program's bytes is the program. -/
theorem back_of (p : Pg) (hr : p.room ≤ 255) (h : Zat Z 0 (wrB p)) : headZ Z ∧ endZ Z = (wrB p).length ∧ Rep (PgZ Z) p := by
  rw [zat_wr] at h
  obtain ⟨h1, h2, h3, h4⟩ := h
  have z0 : Z 0 = 100 := h1 0 (by show 0 < 5; omega)
  have z1 : Z 1 = 108 := h1 1 (by show 1 < 5; omega)
  have z2 : Z 2 = 49 := h1 2 (by show 2 < 5; omega)
  have z3 : Z 3 = (p.n : Int) := h1 3 (by show 3 < 5; omega)
  have z4 : Z 4 = p.room := h1 4 (by show 4 < 5; omega)
  have hm : memN Z = p.m := by unfold memN; rw [two_zat _ _ h2]; rfl
  have hn : (Z 3).toNat = p.n := by rw [z3]; rfl
  rw [zat_mem] at h3
  rw [zat_codes] at h4
  have hpos : ∀ t, t ≤ p.n → codePos Z (7 + 4 * p.m) t = 7 + 4 * p.m + (codesB p.cd t).length := by
    intro t
    induction t with
    | zero => intro _; rfl
    | succ t ih =>
      intro ht
      have hs := h4 t (by omega)
      rw [zat_app] at hs
      have e2 := two_zat _ _ hs.1
      show codeEnd Z (codePos Z (7 + 4 * p.m) t) = _
      rw [ih (by omega), codesB_step]
      unfold codeEnd
      rw [e2]
      omega
  refine ⟨⟨z0, z1, z2⟩, ?_, hn, hm, z4, fun t ht => ?_, fun t ht i hi => ?_, fun i hi => ?_⟩
  · unfold endZ
    rw [hm, hn, hpos _ (Nat.le_refl _), wrB_len]
  · have ht' : t < p.n := by rw [← hn]; exact ht
    have hs := h4 t ht'
    rw [zat_app] at hs
    show (numAt Z (codePos Z (7 + 4 * memN Z) t) 2).toNat = _
    rw [hm, hpos t (by omega), two_zat _ _ hs.1]
    rfl
  · have ht' : t < p.n := by rw [← hn]; exact ht
    have hs := h4 t ht'
    rw [zat_app, zat_cod] at hs
    have hi' : i < (numAt Z (codePos Z (7 + 4 * memN Z) t) 2).toNat := hi
    rw [hm, hpos t (by omega), two_zat _ _ hs.1] at hi'
    show insAt Z (codePos Z (7 + 4 * memN Z) t + 2 + 8 * i) = _
    rw [hm, hpos t (by omega)]
    exact ins_zat _ _ (hs.2 i (by omega))
  · have hi' : i < p.m := by rw [← hm]; exact hi
    exact w_zat _ _ (h3 i hi')
end

theorem flatMap_congr' {α β : Type} {l : List α} {f g : α → List β} (h : ∀ x ∈ l, f x = g x) : l.flatMap f = l.flatMap g := by
  induction l with
  | nil => rfl
  | cons x l ih =>
    rw [List.flatMap_cons, List.flatMap_cons, h x (List.mem_cons_self ..), ih fun y hy => h y (List.mem_cons_of_mem _ hy)]
/-- Programs of the same content have the same bytes. -/
theorem wrB_rep {p q : Pg} (r : Rep p q) : wrB p = wrB q := by
  have e1 : memB p.Z p.m = memB q.Z p.m := flatMap_congr' fun i hi => by rw [r.z i (by simpa using hi)]
  have e2 : codesB p.cd p.n = codesB q.cd p.n := flatMap_congr' fun t ht => by
    have ht' : t < p.n := by simpa using ht
    rw [r.len t ht']
    congr 1
    exact flatMap_congr' fun i hi => by rw [r.ins t ht' i (by rw [r.len t ht']; simpa using hi)]
  unfold wrB
  rw [e1, e2, r.n, r.m, r.room]
end Go.Proofs.YtlmhifnanhkcnaaDoor
