/- Heaps as functions from places to items: plain facts. -/
import Derived.Test.YtiodfcemggfnfaaBase
namespace Go.Proofs.Ytiodfcemggfnfaa
set_option linter.unusedVariables false

/-- An item: kind, thread, by when. -/
structure Itm where
  kind : Int
  who : Int
  due : Int
instance : Inhabited Itm := ⟨⟨0, 0, 0⟩⟩

def swp (F : Nat → Itm) (i j : Nat) : Nat → Itm := fun k => if k = i then F j else if k = j then F i else F k
theorem swp_l (F : Nat → Itm) (i j : Nat) : swp F i j i = F j := by simp [swp]
theorem swp_r (F : Nat → Itm) (i j : Nat) : swp F i j j = F i := by
  unfold swp
  by_cases h : j = i
  · rw [if_pos h, h]
  · rw [if_neg h, if_pos rfl]
theorem swp_o (F : Nat → Itm) (i j k : Nat) (h1 : k ≠ i) (h2 : k ≠ j) : swp F i j k = F k := by simp [swp, h1, h2]

/-- The same items at other places. -/
inductive Swaps (n : Nat) (F : Nat → Itm) : (Nat → Itm) → Prop where
  | refl : Swaps n F F
  | step {G : Nat → Itm} (h : Swaps n F G) (i j : Nat) (hi : i < n) (hj : j < n) : Swaps n F (swp G i j)
theorem Swaps.trans {n : Nat} {F G H : Nat → Itm} (h : Swaps n F G) (k : Swaps n G H) : Swaps n F H := by
  induction k with
  | refl => exact h
  | step k i j hi hj ih => exact .step ih i j hi hj

/-- The one above. -/
def par (k : Nat) : Nat := (k - 1) / 2
def Heap (n : Nat) (F : Nat → Itm) : Prop := ∀ k, 0 < k → k < n → (F (par k)).due ≤ (F k).due
theorem Heap.root {n : Nat} {F : Nat → Itm} (h : Heap n F) : ∀ k, k < n → (F 0).due ≤ (F k).due := by
  intro k
  induction k using Nat.strongRecOn with
  | ind k ih =>
    intro hk
    rcases Nat.eq_zero_or_pos k with rfl | hp
    · exact Int.le_refl _
    · have h1 := h k hp hk
      have h2 := ih (par k) (by unfold par; omega) (by unfold par; omega)
      omega

/-- All is in order but what touches place i; what hangs below i is not ahead of what is above i. -/
structure But (n : Nat) (F : Nat → Itm) (i : Nat) : Prop where
  far : ∀ k, 0 < k → k < n → k ≠ i → par k ≠ i → (F (par k)).due ≤ (F k).due
  over : ∀ c, c < n → 0 < i → 0 < c → par c = i → (F (par i)).due ≤ (F c).due
/-- All is in order but what is between i and the one above it. -/
structure ButUp (n : Nat) (F : Nat → Itm) (i : Nat) : Prop where
  far : ∀ k, 0 < k → k < n → k ≠ i → (F (par k)).due ≤ (F k).due
  over : ∀ c, c < n → 0 < i → 0 < c → par c = i → (F (par i)).due ≤ (F c).due
theorem Heap.but {n : Nat} {F : Nat → Itm} (h : Heap n F) (i : Nat) (x : Itm) : But n (fun k => if k = i then x else F k) i := by
  refine ⟨fun k h0 hk h1 h2 => ?_, fun c hc hi h0 hp => ?_⟩
  · rw [if_neg h1, if_neg h2]
    exact h k h0 hk
  · have h1 : par i ≠ i := by unfold par; omega
    have h2 : c ≠ i := by unfold par at hp; omega
    rw [if_neg h1, if_neg h2]
    have a := h c h0 hc
    have b := h i hi (by unfold par at hp; omega)
    rw [hp] at a
    omega
theorem ButUp.root {n : Nat} {F : Nat → Itm} (h : ButUp n F 0) : Heap n F := fun k h0 hk => h.far k h0 hk (by omega)
theorem ButUp.done {n : Nat} {F : Nat → Itm} {i : Nat} (h : ButUp n F i) (hd : (F (par i)).due ≤ (F i).due) : Heap n F := fun k h0 hk => by
  by_cases e : k = i
  · subst e; exact hd
  · exact h.far k h0 hk e
/-- One step up. -/
theorem ButUp.step {n : Nat} {F : Nat → Itm} {j : Nat} (h : ButUp n F j) (h0 : 0 < j) (hj : j < n) (hl : (F j).due < (F (par j)).due) : ButUp n (swp F (par j) j) (par j) := by
  have hij : par j ≠ j := by unfold par; omega
  have key : ∀ k, 0 < k → k < n → k ≠ par j → (swp F (par j) j (par k)).due ≤ (swp F (par j) j k).due := by
    intro k hk0 hkn hne
    by_cases e1 : k = j
    · subst e1
      rw [swp_l, swp_r]
      omega
    · rw [swp_o F _ _ k hne e1]
      by_cases e2 : par k = par j
      · rw [e2, swp_l]
        have := h.far k hk0 hkn e1
        rw [e2] at this
        omega
      · by_cases e3 : par k = j
        · rw [e3, swp_r]
          exact h.over k hkn h0 hk0 e3
        · rw [swp_o F _ _ _ e2 e3]
          exact h.far k hk0 hkn e1
  refine ⟨key, fun c hc hi0 hc0 hp => ?_⟩
  have hpp : par (par j) ≠ par j := by unfold par at hi0 ⊢; omega
  have hpj : par (par j) ≠ j := by unfold par at hi0 ⊢; omega
  rw [swp_o F _ _ _ hpp hpj]
  have hup := h.far (par j) hi0 (by unfold par; omega) hij
  by_cases e1 : c = j
  · subst e1; rw [swp_r]; exact hup
  · have hcp : c ≠ par j := by unfold par at hp hi0 ⊢; omega
    rw [swp_o F _ _ c hcp e1]
    have := h.far c hc0 hc e1
    rw [hp] at this
    omega
/-- One step down: j is below i, no later than any other below i. -/
theorem But.step {n : Nat} {F : Nat → Itm} {i j : Nat} (h : But n F i) (hj : j < n) (h0 : 0 < j) (hp : par j = i) (hmin : ∀ c, c < n → 0 < c → par c = i → (F j).due ≤ (F c).due) (hl : (F j).due < (F i).due) :
    But n (swp F i j) j ∧ (swp F i j (par j)).due ≤ (swp F i j j).due ∧ (∀ k, 0 < k → k < n → par k = i → (swp F i j i).due ≤ (swp F i j k).due) ∧ (0 < i → (swp F i j (par i)).due ≤ (swp F i j i).due) := by
  have hij : i ≠ j := by unfold par at hp; omega
  refine ⟨⟨fun k hk0 hkn h1 h2 => ?_, fun c hc hj0 hc0 hcp => ?_⟩, ?_, fun k hk0 hkn hk => ?_, fun hi0 => ?_⟩
  · by_cases e1 : k = i
    · subst e1
      rw [swp_l]
      have hpk : par k ≠ k := by unfold par; omega
      rw [swp_o F _ _ _ hpk h2]
      exact h.over j hj hk0 h0 hp
    · rw [swp_o F _ _ k e1 h1]
      by_cases e2 : par k = i
      · rw [e2, swp_l]
        exact hmin k hkn hk0 e2
      · rw [swp_o F _ _ _ e2 h2]
        exact h.far k hk0 hkn e1 e2
  · rw [hp, swp_l]
    have hci : c ≠ i := by unfold par at hcp hp; omega
    have hcj : c ≠ j := by unfold par at hcp; omega
    rw [swp_o F _ _ c hci hcj]
    have := h.far c hc0 hc hci (by rw [hcp]; exact Ne.symm hij)
    rwa [hcp] at this
  · rw [hp, swp_l, swp_r]
    omega
  · rw [swp_l]
    by_cases e : k = j
    · subst e; rw [swp_r]; omega
    · have : k ≠ i := by unfold par at hk; omega
      rw [swp_o F _ _ k this e]
      exact hmin k hkn hk0 hk
  · have hpi : par i ≠ i := by unfold par; omega
    have hpj : par i ≠ j := by unfold par at hp ⊢; omega
    rw [swp_l, swp_o F _ _ _ hpi hpj]
    exact h.over j hj hi0 h0 hp
/-- Nothing below i is ahead of it. -/
theorem But.stop {n : Nat} {F : Nat → Itm} {i : Nat} (h : But n F i) (hb : ∀ c, c < n → 0 < c → par c = i → (F i).due ≤ (F c).due) : ButUp n F i :=
  ⟨fun k h0 hk h1 => by
    by_cases e : par k = i
    · rw [e]; exact hb k hk h0 e
    · exact h.far k h0 hk h1 e, h.over⟩
theorem But.heap {n : Nat} {F : Nat → Itm} {i : Nat} (h : But n F i) (hb : ∀ c, c < n → 0 < c → par c = i → (F i).due ≤ (F c).due) (hu : 0 < i → (F (par i)).due ≤ (F i).due) : Heap n F := fun k h0 hk => by
  by_cases e : k = i
  · subst e; exact hu h0
  · exact (h.stop hb).far k h0 hk e
/-- A new one at the end. -/
theorem Heap.push {n : Nat} {F : Nat → Itm} (h : Heap n F) (x : Itm) : ButUp (n + 1) (fun k => if k = n then x else F k) n := by
  refine ⟨fun k h0 hk h1 => ?_, fun c hc hi h0 hp => ?_⟩
  · rw [if_neg h1, if_neg (by unfold par; omega)]
    exact h k h0 (by omega)
  · unfold par at hp
    omega
end Go.Proofs.Ytiodfcemggfnfaa
