/- Even scripts, as lists: what is picked next; such a script is fair; there is just one. -/
import Derived.Test.YtiodfcemggfnfaaHeapM
namespace Go.Proofs.Ytiodfcemggfnfaa
open Go.RowKit
set_option linter.unusedVariables false

abbrev Pk := Int × Int
/-- By when each thread's step (0) and flush (1) has to be picked. -/
abbrev Du := Nat → Nat → Int
def du0 (w : Nat) : Du := fun kind who => (w : Int) - 2 * (who : Int) - (kind : Int)
def upd (D : Du) (x : Pk) (v : Int) : Du := fun kind who => if ((kind : Int), (who : Int)) = x then v else D kind who
def ndue (n w : Nat) : Int := wrap64 ((n : Int) + 1 + (w : Int))
/-- The thread and kind that are due first. -/
def First (t : Nat) (D : Du) (kind who : Nat) : Prop := kind < 2 ∧ who < t ∧ ∀ k' w', k' < 2 → w' < t → D kind who ≤ D k' w'
/-- An even script so far, by when what is due, and how many wishes were granted. -/
inductive Play (t w nw : Nat) (Wf : Nat → Pk) : List Pk → Du → Nat → Prop where
  | nil : Play t w nw Wf [] (du0 w) 0
  | own {L : List Pk} {D : Du} {k : Nat} (h : Play t w nw Wf L D k) (kind who : Nat) (hf : First t D kind who) (hd : wrap64 (D kind who - (L.length : Int)) ≤ 2 * (t : Int) ∨ nw = 0) :
      Play t w nw Wf (L ++ [((kind : Int), (who : Int))]) (upd D ((kind : Int), (who : Int)) (ndue L.length w)) k
  | wish {L : List Pk} {D : Du} {k : Nat} (h : Play t w nw Wf L D k) (kind who : Nat) (hf : First t D kind who) (hd : ¬ wrap64 (D kind who - (L.length : Int)) ≤ 2 * (t : Int)) (hn : 0 < nw) :
      Play t w nw Wf (L ++ [Wf (k % nw)]) (upd D (Wf (k % nw)) (ndue L.length w)) (k + 1)

theorem Play.len {t w nw : Nat} {Wf : Nat → Pk} {L : List Pk} {D : Du} {k : Nat} (h : Play t w nw Wf L D k) : k ≤ L.length := by
  induction h with
  | nil => exact Nat.le_refl _
  | own h _ _ _ _ ih => simp; omega
  | wish h _ _ _ _ _ ih => simp; omega

/-- Where nothing wraps: all is due within the window. -/
theorem Play.bound {t w nw : Nat} {Wf : Nat → Pk} {L : List Pk} {D : Du} {k : Nat} (ht : t ≤ 8) (hw : 4 * t ≤ w) (hw2 : w ≤ 1099511627776) (h : Play t w nw Wf L D k) (hl : L.length ≤ 100000) :
    ∀ kind who, kind < 2 → who < t → -100 ≤ D kind who ∧ D kind who ≤ (L.length : Int) + (w : Int) := by
  have hv : ∀ n : Nat, n ≤ 100000 → ndue n w = (n : Int) + 1 + (w : Int) := fun n hn => by unfold ndue wrap64; omega
  induction h with
  | nil =>
    intro kind who hk hwho
    unfold du0
    simp
    omega
  | own h kd wh hf hd ih =>
    intro kind who hk hwho
    simp only [List.length_append, List.length_cons, List.length_nil] at hl ⊢
    obtain ⟨h1, h2⟩ := ih (by omega) kind who hk hwho
    unfold upd
    split
    · rw [hv _ (by omega)]; omega
    · omega
  | wish h kd wh hf hd hn ih =>
    intro kind who hk hwho
    simp only [List.length_append, List.length_cons, List.length_nil] at hl ⊢
    obtain ⟨h1, h2⟩ := ih (by omega) kind who hk hwho
    unfold upd
    split
    · rw [hv _ (by omega)]; omega
    · omega
/-- No two are due at once. -/
theorem Play.inj {t w nw : Nat} {Wf : Nat → Pk} {L : List Pk} {D : Du} {k : Nat} (ht : t ≤ 8) (hw : 4 * t ≤ w) (hw2 : w ≤ 1099511627776) (h : Play t w nw Wf L D k) (hl : L.length ≤ 100000) :
    ∀ k1 w1 k2 w2, k1 < 2 → w1 < t → k2 < 2 → w2 < t → D k1 w1 = D k2 w2 → k1 = k2 ∧ w1 = w2 := by
  have hv : ∀ n : Nat, n ≤ 100000 → ndue n w = (n : Int) + 1 + (w : Int) := fun n hn => by unfold ndue wrap64; omega
  induction h with
  | nil =>
    intro k1 w1 k2 w2 a b c d e
    unfold du0 at e
    omega
  | own h kd wh hf hd ih =>
    intro k1 w1 k2 w2 a b c d e
    simp only [List.length_append, List.length_cons, List.length_nil] at hl
    have hb := h.bound ht hw hw2 (by omega)
    have b1 := hb k1 w1 a b
    have b2 := hb k2 w2 c d
    unfold upd at e
    rw [hv _ (by omega)] at e
    split at e <;> split at e
    · rename_i e1 e2
      have := e1.trans e2.symm
      injection this with q1 q2
      omega
    · omega
    · omega
    · exact ih (by omega) k1 w1 k2 w2 a b c d e
  | wish h kd wh hf hd hn ih =>
    intro k1 w1 k2 w2 a b c d e
    simp only [List.length_append, List.length_cons, List.length_nil] at hl
    have hb := h.bound ht hw hw2 (by omega)
    have b1 := hb k1 w1 a b
    have b2 := hb k2 w2 c d
    unfold upd at e
    rw [hv _ (by omega)] at e
    split at e <;> split at e
    · rename_i e1 e2
      have := e1.trans e2.symm
      injection this with q1 q2
      omega
    · omega
    · omega
    · exact ih (by omega) k1 w1 k2 w2 a b c d e
theorem Play.snoc {t w nw : Nat} {Wf : Nat → Pk} {L' : List Pk} {D' : Du} {k' : Nat} (h : Play t w nw Wf L' D' k') (hp : 0 < L'.length) :
    ∃ L D k kind who, Play t w nw Wf L D k ∧ First t D kind who ∧ ((wrap64 (D kind who - (L.length : Int)) ≤ 2 * (t : Int) ∨ nw = 0) ∧ L' = L ++ [((kind : Int), (who : Int))] ∧ D' = upd D ((kind : Int), (who : Int)) (ndue L.length w) ∧ k' = k ∨
      ¬ wrap64 (D kind who - (L.length : Int)) ≤ 2 * (t : Int) ∧ 0 < nw ∧ L' = L ++ [Wf (k % nw)] ∧ D' = upd D (Wf (k % nw)) (ndue L.length w) ∧ k' = k + 1) := by
  cases h with
  | nil => simp at hp
  | own h kd wh hf hd => exact ⟨_, _, _, kd, wh, h, hf, .inl ⟨hd, rfl, rfl, rfl⟩⟩
  | wish h kd wh hf hd hn => exact ⟨_, _, _, kd, wh, h, hf, .inr ⟨hd, hn, rfl, rfl, rfl⟩⟩
/-- There is just one even script. -/
theorem Play.one {t w nw : Nat} {Wf : Nat → Pk} (ht : t ≤ 8) (hw : 4 * t ≤ w) (hw2 : w ≤ 1099511627776) : ∀ (n : Nat), n ≤ 100000 → ∀ {L L' : List Pk} {D D' : Du} {k k' : Nat}, L.length = n → L'.length = n → Play t w nw Wf L D k → Play t w nw Wf L' D' k' → L = L' ∧ D = D' ∧ k = k'
  | 0, _, L, L', D, D', k, k', e, e', h, h' => by
    cases h with
    | nil => cases h' with
      | nil => exact ⟨rfl, rfl, rfl⟩
      | own => simp at e'
      | wish => simp at e'
    | own => simp at e
    | wish => simp at e
  | n + 1, hn, L, L', D, D', k, k', e, e', h, h' => by
    obtain ⟨L1, D1, k1, kd1, wh1, p1, f1, c1⟩ := h.snoc (by omega)
    obtain ⟨L2, D2, k2, kd2, wh2, p2, f2, c2⟩ := h'.snoc (by omega)
    have l1 : L1.length = n := by
      rcases c1 with ⟨_, e1, _⟩ | ⟨_, _, e1, _⟩ <;> rw [e1] at e <;> simpa using e
    have l2 : L2.length = n := by
      rcases c2 with ⟨_, e1, _⟩ | ⟨_, _, e1, _⟩ <;> rw [e1] at e' <;> simpa using e'
    obtain ⟨rfl, rfl, rfl⟩ := Play.one ht hw hw2 n (by omega) l1 l2 p1 p2
    have hq := p1.inj ht hw hw2 (by omega) kd1 wh1 kd2 wh2 f1.1 f1.2.1 f2.1 f2.2.1 (by
      have a := f1.2.2 kd2 wh2 f2.1 f2.2.1
      have b := f2.2.2 kd1 wh1 f1.1 f1.2.1
      omega)
    obtain ⟨rfl, rfl⟩ := hq
    rcases c1 with ⟨a1, b1, d1, g1⟩ | ⟨a1, z1, b1, d1, g1⟩ <;> rcases c2 with ⟨a2, b2, d2, g2⟩ | ⟨a2, z2, b2, d2, g2⟩
    · exact ⟨b1.trans b2.symm, d1.trans d2.symm, g1.trans g2.symm⟩
    · rcases a1 with a1 | a1
      · exact absurd a1 a2
      · omega
    · rcases a2 with a2 | a2
      · exact absurd a2 a1
      · omega
    · exact ⟨b1.trans b2.symm, d1.trans d2.symm, g1.trans g2.symm⟩
end Go.Proofs.Ytiodfcemggfnfaa
