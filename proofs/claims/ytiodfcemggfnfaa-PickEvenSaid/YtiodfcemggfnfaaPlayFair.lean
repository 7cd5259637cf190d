/- An even script is fair. -/
import Derived.Test.YtiodfcemggfnfaaPlay
import Derived.Test.YtiodfcemggfnfaaFair
namespace Go.Proofs.Ytiodfcemggfnfaa
open Go.RowKit
set_option linter.unusedVariables false

def itms (t : Nat) : List (Nat × Nat) := (List.range t).flatMap fun who => [(0, who), (1, who)]
theorem itms_len : ∀ t, (itms t).length = 2 * t
  | 0 => rfl
  | t + 1 => by
    have := itms_len t
    unfold itms at this ⊢
    rw [List.range_succ, List.flatMap_append, List.length_append, this]
    simp
    omega
theorem mem_itms {t : Nat} {q : Nat × Nat} : q ∈ itms t ↔ q.1 < 2 ∧ q.2 < t := by
  unfold itms
  rw [List.mem_flatMap]
  constructor
  · rintro ⟨who, hw, hq⟩
    have := List.mem_range.1 hw
    simp only [List.mem_cons, List.not_mem_nil, or_false] at hq
    rcases hq with rfl | rfl <;> simp <;> omega
  · obtain ⟨a, b⟩ := q
    rintro ⟨h1, h2⟩
    dsimp only at h1 h2
    refine ⟨b, List.mem_range.2 h2, ?_⟩
    rcases (by omega : a = 0 ∨ a = 1) with rfl | rfl <;> simp
theorem itms_nodup : ∀ t, (itms t).Nodup
  | 0 => List.nodup_nil
  | t + 1 => by
    have ih := itms_nodup t
    have hm : ∀ q, q ∈ itms t → q.2 < t := fun q h => (mem_itms.1 h).2
    unfold itms at ih hm ⊢
    rw [List.range_succ, List.flatMap_append, List.nodup_append]
    refine ⟨ih, by simp, fun a ha b hb => ?_⟩
    have h1 := hm a ha
    simp at hb
    rintro rfl
    rcases hb with rfl | rfl <;> simp at h1
theorem countP_one {α : Type} [DecidableEq α] (P P' : α → Bool) (r : α) : ∀ (l : List α), l.Nodup → r ∈ l → P r = true → P' r = false → (∀ q ∈ l, q ≠ r → P' q = P q) → l.countP P = l.countP P' + 1
  | [], _, h, _, _, _ => absurd h (by simp)
  | a :: l, hn, hr, h1, h2, h3 => by
    rw [List.nodup_cons] at hn
    by_cases e : a = r
    · subst e
      have hl : l.countP P' = l.countP P := List.countP_congr fun q hq => by
        rw [h3 q (List.mem_cons_of_mem _ hq) (fun e => hn.1 (e ▸ hq))]
      rw [List.countP_cons_of_pos h1, List.countP_cons_of_neg (by simp [h2]), hl]
    · have hr' : r ∈ l := by
        rcases List.mem_cons.1 hr with h | h
        · exact absurd h.symm e
        · exact h
      have ih := countP_one P P' r l hn.2 hr' h1 h2 (fun q hq hne => h3 q (List.mem_cons_of_mem _ hq) hne)
      have hc := h3 a List.mem_cons_self e
      by_cases hp : P a = true
      · rw [List.countP_cons_of_pos hp, List.countP_cons_of_pos (hc.trans hp), ih]
      · rw [List.countP_cons_of_neg hp, List.countP_cons_of_neg (by rw [hc]; exact hp), ih]
def dueBy (D : Du) (n : Int) (q : Nat × Nat) : Bool := decide (D q.1 q.2 ≤ n)
/-- So many are due by so soon, at most. -/
def Cnt (t : Nat) (D : Du) (len : Nat) : Prop := ∀ v : Nat, (itms t).countP (dueBy D ((len : Int) + (v : Int))) ≤ v
/-- Each was picked so long ago at most. -/
def Lst (t w : Nat) (L : List Pk) (D : Du) : Prop := ∀ kind who, kind < 2 → who < t → D kind who ≤ (w : Int) ∨ ∃ p : Nat, L[p]? = some ((kind : Int), (who : Int)) ∧ D kind who = (p : Int) + 1 + (w : Int)
theorem cnt_none {t : Nat} {D : Du} {n : Int} (h : ∀ kind who, kind < 2 → who < t → n < D kind who) : (itms t).countP (dueBy D n) = 0 := by
  rw [List.countP_eq_zero]
  intro q hq
  obtain ⟨h1, h2⟩ := mem_itms.1 hq
  have := h q.1 q.2 h1 h2
  unfold dueBy
  simp
  omega
theorem Cnt.pos {t : Nat} {D : Du} {len : Nat} (h : Cnt t D len) {kind who : Nat} (hk : kind < 2) (hw : who < t) : (len : Int) < D kind who := by
  have h0 := h 0
  by_cases e : (len : Int) < D kind who
  · exact e
  · have : 0 < (itms t).countP (dueBy D ((len : Int) + ((0 : Nat) : Int))) := List.countP_pos_iff.2 ⟨(kind, who), mem_itms.2 ⟨hk, hw⟩, by unfold dueBy; simp; omega⟩
    omega
theorem cnt_start {t w : Nat} (hw : 4 * t ≤ w) : Cnt t (du0 w) 0 := fun v => by
  by_cases hv : 2 * t ≤ v
  · have := List.countP_le_length (p := dueBy (du0 w) (((0 : Nat) : Int) + (v : Int))) (l := itms t)
    rw [itms_len] at this
    omega
  · rw [cnt_none]
    · omega
    · intro kind who hk hwho
      unfold du0
      omega
theorem cnt_own {t w : Nat} {D : Du} {len kind who : Nat} (ht : 1 ≤ t) (hw : 4 * t ≤ w) (h : Cnt t D len) (hf : First t D kind who) : Cnt t (upd D ((kind : Int), (who : Int)) ((len : Int) + 1 + (w : Int))) (len + 1) := fun v => by
  by_cases hv : 2 * t ≤ v
  · have := List.countP_le_length (p := dueBy (upd D ((kind : Int), (who : Int)) ((len : Int) + 1 + (w : Int))) (((len + 1 : Nat) : Int) + (v : Int))) (l := itms t)
    rw [itms_len] at this
    omega
  · have hnew : dueBy (upd D ((kind : Int), (who : Int)) ((len : Int) + 1 + (w : Int))) (((len + 1 : Nat) : Int) + (v : Int)) (kind, who) = false := by
      unfold dueBy upd
      simp
      omega
    have hsame : ∀ q : Nat × Nat, q ≠ (kind, who) → dueBy (upd D ((kind : Int), (who : Int)) ((len : Int) + 1 + (w : Int))) (((len + 1 : Nat) : Int) + (v : Int)) q = dueBy D ((len : Int) + ((v + 1 : Nat) : Int)) q := fun q hq => by
      unfold dueBy upd
      rw [if_neg (fun e => hq (by
        injection e with e1 e2
        obtain ⟨a, b⟩ := q
        dsimp only at e1 e2
        rw [Int.ofNat_inj.1 e1, Int.ofNat_inj.1 e2]))]
      rw [show ((len + 1 : Nat) : Int) + (v : Int) = (len : Int) + ((v + 1 : Nat) : Int) by omega]
    by_cases hr : dueBy D ((len : Int) + ((v + 1 : Nat) : Int)) (kind, who) = true
    · have := countP_one _ _ (kind, who) (itms t) (itms_nodup t) (mem_itms.2 ⟨hf.1, hf.2.1⟩) hr hnew (fun q _ hq => hsame q hq)
      have h1 := h (v + 1)
      omega
    · rw [List.countP_eq_zero.2]
      · omega
      · intro q hq
        by_cases e : q = (kind, who)
        · rw [e, hnew]; simp
        · rw [hsame q e]
          obtain ⟨h1, h2⟩ := mem_itms.1 hq
          have := hf.2.2 q.1 q.2 h1 h2
          unfold dueBy at hr ⊢
          simp only [decide_eq_true_eq] at hr ⊢
          omega
theorem cnt_wish {t w : Nat} {D : Du} {len kind who : Nat} (ht : 1 ≤ t) (hw : 4 * t ≤ w) (h : Cnt t D len) (hf : First t D kind who) (hd : (len : Int) + 2 * (t : Int) < D kind who) (x : Pk) : Cnt t (upd D x ((len : Int) + 1 + (w : Int))) (len + 1) := fun v => by
  by_cases hv : 2 * t ≤ v
  · have := List.countP_le_length (p := dueBy (upd D x ((len : Int) + 1 + (w : Int))) (((len + 1 : Nat) : Int) + (v : Int))) (l := itms t)
    rw [itms_len] at this
    omega
  · rw [cnt_none]
    · omega
    · intro k2 w2 h1 h2
      have := hf.2.2 k2 w2 h1 h2
      unfold upd
      split <;> omega
theorem lst_step {t w : Nat} {L : List Pk} {D : Du} (h : Lst t w L D) (x : Pk) : Lst t w (L ++ [x]) (upd D x ((L.length : Int) + 1 + (w : Int))) := fun kind who hk hwho => by
  unfold upd
  split
  · rename_i e
    exact .inr ⟨L.length, by rw [List.getElem?_append_right (Nat.le_refl _)]; simp [e], rfl⟩
  · rcases h kind who hk hwho with h | ⟨p, h1, h2⟩
    · exact .inl h
    · exact .inr ⟨p, by rw [List.getElem?_append_left (List.getElem?_eq_some_iff.1 h1).1]; exact h1, h2⟩
/-- In each window each is picked. -/
def Windows (t w : Nat) (L : List Pk) : Prop := ∀ i, i + w ≤ L.length → ∀ kind who : Nat, kind < 2 → who < t → ∃ p, i ≤ p ∧ p < i + w ∧ L[p]? = some ((kind : Int), (who : Int))
theorem windows_step {t w : Nat} {L : List Pk} {D : Du} (hL : Windows t w L) (x : Pk) (hc : Cnt t D (L.length + 1)) (hl : Lst t w (L ++ [x]) D) : Windows t w (L ++ [x]) := by
  intro i hi kind who hk hwho
  rw [List.length_append, List.length_singleton] at hi
  by_cases hlast : i + w ≤ L.length
  · obtain ⟨p, h1, h2, h3⟩ := hL i hlast kind who hk hwho
    exact ⟨p, h1, h2, by rw [List.getElem?_append_left (by omega)]; exact h3⟩
  · have hp := hc.pos hk hwho
    rcases hl kind who hk hwho with h | ⟨p, h1, h2⟩
    · omega
    · have := (List.getElem?_eq_some_iff.1 h1).1
      rw [List.length_append, List.length_singleton] at this
      exact ⟨p, by omega, by omega, h1⟩
theorem Play.fair {t w nw : Nat} {Wf : Nat → Pk} {L : List Pk} {D : Du} {k : Nat} (ht1 : 1 ≤ t) (ht : t ≤ 8) (hw : 4 * t ≤ w) (hw2 : w ≤ 1099511627776) (h : Play t w nw Wf L D k) (hl : L.length ≤ 100000) : Cnt t D L.length ∧ Lst t w L D ∧ Windows t w L := by
  have hv : ∀ n : Nat, n ≤ 100000 → ndue n w = (n : Int) + 1 + (w : Int) := fun n hn => by unfold ndue wrap64; omega
  induction h with
  | nil => exact ⟨cnt_start hw, fun kind who hk hwho => .inl (by unfold du0; omega), fun i hi => by simp at hi; omega⟩
  | @own L D k h kd wh hf hd ih =>
    simp only [List.length_append, List.length_cons, List.length_nil] at hl ⊢
    obtain ⟨h1, h2, h3⟩ := ih (by omega)
    have c := cnt_own ht1 hw h1 hf
    rw [hv _ (by omega)]
    have l := lst_step h2 ((kd : Int), (wh : Int))
    exact ⟨c, l, windows_step h3 _ c l⟩
  | @wish L D k h kd wh hf hd hn ih =>
    simp only [List.length_append, List.length_cons, List.length_nil] at hl ⊢
    obtain ⟨h1, h2, h3⟩ := ih (by omega)
    have hb := h.bound ht hw hw2 (by omega) kd wh hf.1 hf.2.1
    have c := cnt_wish ht1 hw h1 hf (by unfold wrap64 at hd; omega) (Wf (k % nw))
    rw [hv _ (by omega)]
    have l := lst_step h2 (Wf (k % nw))
    exact ⟨c, l, windows_step h3 _ c l⟩

def lk (L : List Pk) (i : Nat) : Int := (L.getD i (0, 0)).1
def lv (L : List Pk) (i : Nat) : Int := (L.getD i (0, 0)).2
theorem Windows.has {t w : Nat} {L : List Pk} (h : Windows t w L) {i : Nat} (hi : i + w ≤ L.length) {kind who : Nat} (hk : kind < 2) (hwho : who < t) : Has (lk L) (lv L) kind who i (i + w) := by
  obtain ⟨p, h1, h2, h3⟩ := h i hi kind who hk hwho
  refine ⟨p, h1, h2, ?_, ?_⟩
  · unfold lk; rw [List.getD_eq_getElem?_getD, h3]; rfl
  · unfold lv; rw [List.getD_eq_getElem?_getD, h3]; rfl
theorem has_wide {K V : Nat → Int} {kind who i j i' j' : Nat} (h : Has K V kind who i j) (hi : i' ≤ i) (hj : j ≤ j') : Has K V kind who i' j' := by
  obtain ⟨p, h1, h2, h3⟩ := h
  exact ⟨p, by omega, by omega, h3⟩
/-- Fair for a wider window, fewer threads, each piece. -/
theorem Windows.fairP {t w t' w' : Nat} {L : List Pk} (h : Windows t w L) (h1 : 1 ≤ t') (h2 : t' ≤ t) (h3 : t ≤ 8) (h4 : 4 * t' ≤ w') (h5 : w ≤ w') (a n : Nat) (hn : a + n ≤ L.length) : FairP (fun i => lk L (a + i)) (fun i => lv L (a + i)) n (t' : Int) (w' : Int) := by
  rw [fairP_nat h1 (by omega) h4]
  intro i hi who hwho
  have sh : ∀ kind : Nat, Has (lk L) (lv L) kind who (a + i) (a + i + w') → Has (fun i => lk L (a + i)) (fun i => lv L (a + i)) kind who i (i + w') := by
    rintro kind ⟨p, q1, q2, q3⟩
    exact ⟨p - a, by omega, by omega, by dsimp only; rw [show a + (p - a) = p by omega]; exact q3⟩
  exact ⟨sh 0 (has_wide (h.has (i := a + i) (by omega) (by omega) (by omega)) (Nat.le_refl _) (by omega)), sh 1 (has_wide (h.has (i := a + i) (by omega) (by omega) (by omega)) (Nat.le_refl _) (by omega))⟩
end Go.Proofs.Ytiodfcemggfnfaa
