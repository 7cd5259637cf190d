/- Calls apart, as lists. -/
import Derived.Test.YtidedjjpaoagjaaTraceCallsL
namespace Go.Proofs.Ytidedjjpaoagjaa
open Go.ChangeShapes Go.WideShapes Go.ChangeAt Go.RowKit Go.Deep
set_option linter.unusedVariables false
set_option linter.unusedSimpArgs false

/-- What is known of a call that has seen the first n events. -/
structure Seen (E : Nat → Ev) (n : Nat) (s : Cl × Bool) : Prop where
  inn : ∀ z ∈ s.1.inner, s.1.began < z ∧ z < (n : Int) ∧ (E z.toNat).who = s.1.who ∧ (0 ≤ s.1.ended → z < s.1.ended)
  en : s.1.ended < (n : Int)
  on : s.2 = true → s.1.ended = -1
  bg : 0 ≤ s.1.began ∧ s.1.began < (n : Int)
  em : s.1.ended = -1 ∨ 0 ≤ s.1.ended
theorem seen_new (E : Nat → Ev) (i : Nat) : Seen E (i + 1) (oneS E (i + 1) i) := by
  rw [oneS_new]
  refine ⟨fun z hz => ?_, ?_, fun _ => rfl, ?_, .inl rfl⟩
  · simp [newC] at hz
  · show (-1 : Int) < ((i + 1 : Nat) : Int); omega
  · show (0 : Int) ≤ (i : Int) ∧ (i : Int) < ((i + 1 : Nat) : Int); omega
theorem seen_step {E : Nat → Ev} {n : Nat} {s : Cl × Bool} (h : Seen E n s) : Seen E (n + 1) (ostep s (n, E n)) := by
  have hw : Seen E (n + 1) s := ⟨fun z hz => by obtain ⟨a, b, c, d⟩ := h.inn z hz; exact ⟨a, by omega, c, d⟩, by have := h.en; omega, h.on, by have := h.bg; omega, h.em⟩
  obtain ⟨h1, h2, h3, h4, h5⟩ := h
  unfold ostep
  by_cases o : s.2 = false
  · rw [if_pos o]; exact hw
  rw [if_neg o]
  have ho : s.2 = true := by simpa using o
  dsimp only
  by_cases w : (E n).who ≠ s.1.who
  · rw [if_pos w]; exact hw
  rw [if_neg w]
  have hwho : (E n).who = s.1.who := by simpa using w
  by_cases k7 : (E n).kind ≠ 7
  · rw [if_pos k7]
    by_cases k3 : (E n).kind ≠ 3
    · rw [if_pos k3]
      refine ⟨fun z hz => ?_, ?_, fun _ => h3 ho, ?_, h5⟩
      · dsimp only at hz ⊢
        rcases List.mem_append.1 hz with hz | hz
        · obtain ⟨a, b, c, d⟩ := h1 z hz
          exact ⟨a, by omega, c, d⟩
        · rw [List.mem_singleton.1 hz]
          refine ⟨by omega, by omega, by simpa using hwho, fun h0 => ?_⟩
          have := h3 ho
          omega
      · dsimp only; omega
      · dsimp only; omega
    · rw [if_neg k3]; exact hw
  rw [if_neg k7]
  by_cases ev : (E n).k % 2 = 0
  · rw [if_pos ev]
    exact ⟨hw.inn, hw.en, (fun h => by cases h), hw.bg, hw.em⟩
  rw [if_neg ev]
  by_cases si : (E n).k / 2 = s.1.site
  · rw [if_pos si]
    refine ⟨fun z hz => ?_, ?_, (fun h => by cases h), ?_, .inr (by dsimp only; omega)⟩
    · dsimp only at hz ⊢
      obtain ⟨a, b, c, d⟩ := h1 z hz
      exact ⟨a, by omega, c, fun _ => b⟩
    · dsimp only; omega
    · dsimp only; omega
  · rw [if_neg si]; exact hw
theorem seen_all (E : Nat → Ev) (i : Nat) : ∀ d, Seen E (i + 1 + d) (oneS E (i + 1 + d) i)
  | 0 => seen_new E i
  | d + 1 => by
    rw [← Nat.add_assoc, oneS_succ E _ i (by omega)]
    exact seen_step (seen_all E i d)
/-- A call ends, or is given up, where its thread's next one begins. -/
theorem seen_next (E : Nat → Ev) (i j len : Nat) (hij : i < j) (hj : j < len) (hb : begB E j = true) (hw : (E j).who = (E i).who) :
    (oneS E len i).1.ended < (j : Int) ∧ ∀ z ∈ (oneS E len i).1.inner, z < (j : Int) := by
  have h1 : Seen E j (oneS E j i) := by
    have := seen_all E i (j - (i + 1))
    rwa [show i + 1 + (j - (i + 1)) = j by omega] at this
  have h2 : oneS E (j + 1) i = ostep (oneS E j i) (j, E j) := oneS_succ E j i hij
  have hk : (E j).kind = 7 ∧ (E j).k % 2 = 0 := by
    unfold begB at hb
    simpa using hb
  have hwho : (E j).who = (oneS E j i).1.who := by rw [hw, (oneS_who E j i).1]
  have h3 : (oneS E (j + 1) i).2 = false ∧ (oneS E (j + 1) i).1 = (oneS E j i).1 := by
    rw [h2]
    unfold ostep
    dsimp only
    by_cases o : (oneS E j i).2 = false
    · rw [if_pos o]; exact ⟨o, rfl⟩
    · rw [if_neg o, if_neg (by simp [hwho]), if_neg (by simp [hk.1]), if_pos hk.2]
      exact ⟨rfl, rfl⟩
  have h4 : ∀ d, oneS E (j + 1 + d) i = oneS E (j + 1) i := by
    intro d
    induction d with
    | zero => rfl
    | succ d ih => rw [← Nat.add_assoc, oneS_succ E _ i (by omega), ih, ostep_off h3.1]
  have h5 : oneS E len i = oneS E (j + 1) i := by
    have := h4 (len - (j + 1))
    rwa [show j + 1 + (len - (j + 1)) = len by omega] at this
  rw [h5, h3.2]
  exact ⟨h1.en, fun z hz => (h1.inn z hz).2.1⟩

/-- What is asked of one call. -/
theorem apart_one (E : Nat → Ev) (len : Nat) : ∀ c ∈ allC E len, 0 ≤ c.began ∧ c.began < (len : Int) ∧ c.ended < (len : Int) ∧ (c.ended = -1 ∨ 0 ≤ c.ended) ∧ ∀ z ∈ c.inner, c.began < z ∧ z < (len : Int) ∧ (E z.toNat).who = c.who ∧ (0 ≤ c.ended → z < c.ended) := by
  intro c hc
  obtain ⟨i, hi, rfl⟩ := List.mem_map.1 hc
  have hil := List.mem_range.1 (List.mem_filter.1 hi).1
  have h1 := seen_all E i (len - (i + 1))
  rw [show i + 1 + (len - (i + 1)) = len by omega] at h1
  exact ⟨h1.bg.1, h1.bg.2, h1.en, h1.em, h1.inn⟩
/-- What is asked of two. -/
theorem apart_two (E : Nat → Ev) (len : Nat) : (allC E len).Pairwise fun a b => a.who = b.who → a.ended < b.began ∧ ∀ z ∈ a.inner, z < b.began := by
  unfold allC
  rw [List.pairwise_map]
  have h : ((List.range len).filter fun i => begB E i && (decide (0 ≤ (E i).who) && decide ((E i).who < 8))).Pairwise (· < ·) := List.Pairwise.filter _ List.pairwise_lt_range
  refine h.imp_of_mem fun {i j} hi hj hij hw => ?_
  obtain ⟨hj1, hj2⟩ := List.mem_filter.1 hj
  simp only [Bool.and_eq_true] at hj2
  rw [(oneS_who E len i).1, (oneS_who E len j).1] at hw
  rw [(oneS_who E len j).2.1]
  exact seen_next E i j len hij (List.mem_range.1 hj1) hj2.1 hw.symm
end Go.Proofs.Ytidedjjpaoagjaa
