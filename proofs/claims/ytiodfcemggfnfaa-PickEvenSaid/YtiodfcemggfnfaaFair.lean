/- The contracts of the reference's Fair and of pick.Fair: each tells whether every window holds each thread's step and flush. -/
import Derived.Test.YtiodfcemggfnfaaPicks
import Derived.Test.YtiodfcemggfnfaaMem
import Derived.Deep.QuietTactic
import Derived.BigQuiet
namespace Go.Proofs.Ytiodfcemggfnfaa
open Go.RowKit
set_option linter.unusedVariables false

/-- Is a pick of a kind and a thread at a place in [i, j)? -/
def Has (K V : Nat → Int) (kind who i j : Nat) : Prop := ∃ p, i ≤ p ∧ p < j ∧ K p = kind ∧ V p = who
def FairW (K V : Nat → Int) (t w i : Nat) : Prop := ∀ who, who < t → Has K V 0 who i (i + w) ∧ Has K V 1 who i (i + w)
def FairP (K V : Nat → Int) (len : Nat) (t w : Int) : Prop :=
  (1 ≤ t ∧ t ≤ 8 ∧ 4 * t ≤ w) ∧ ∀ i : Nat, (i : Int) + w ≤ len → FairW K V t.toNat w.toNat i
def FairRes (P : Prop) (w : World) (e : Ending) (w' : World) : Prop := ∃ bl, e = .returned (.bool bl) ∧ (bl = true ↔ P) ∧ Below w.heap.size w w'
theorem FairRes.no {P : Prop} {w w' : World} (h : ¬ P) (hb : Below w.heap.size w w') : FairRes P w (.returned (.bool false)) w' := ⟨false, rfl, by simp [h], hb⟩
theorem FairRes.yes {P : Prop} {w w' : World} (h : P) (hb : Below w.heap.size w w') : FairRes P w (.returned (.bool true)) w' := ⟨true, rfl, by simp [h], hb⟩
theorem Has.none_ {K V : Nat → Int} {kind who i : Nat} : ¬ Has K V kind who i i := fun ⟨p, h1, h2, _⟩ => by omega
theorem Has.snoc {K V : Nat → Int} {kind who i j : Nat} (hij : i ≤ j) : Has K V kind who i (j + 1) ↔ Has K V kind who i j ∨ (K j = kind ∧ V j = who) := by
  constructor
  · rintro ⟨p, h1, h2, h3⟩
    by_cases hp : p = j
    · subst hp; exact .inr h3
    · exact .inl ⟨p, h1, by omega, h3⟩
  · rintro (⟨p, h1, h2, h3⟩ | h)
    · exact ⟨p, h1, by omega, h3⟩
    · exact ⟨j, hij, by omega, h⟩
/-- The cells of picks: kind, thread, kind, thread .. -/
def pickCells (K V : Nat → Int) (i : Nat) : Value := if i % 2 = 0 then .int .i64 (K (i / 2)) else .int .i64 (V (i / 2))
theorem pickCells_0 (K V : Nat → Int) (i : Nat) : pickCells K V (i * 2) = .int .i64 (K i) := by
  unfold pickCells; rw [if_pos (by omega), show i * 2 / 2 = i by omega]
theorem pickCells_1 (K V : Nat → Int) (i : Nat) : pickCells K V (i * 2 + 1) = .int .i64 (V i) := by
  unfold pickCells; rw [if_neg (by omega), show (i * 2 + 1) / 2 = i by omega]

theorem refFair_no (A : Option Addr) (len cap : Nat) (K V : Nat → Int) (t w : Int) (W : World) (h : t < 1 ∨ 8 < t ∨ w < 4 * t) (h1 : -9223372036854775808 ≤ t) (h2 : t ≤ 9223372036854775807) :
    Calls Try.prog 14 #[.slice A len cap, .int .i64 t, .int .i64 w] W (FairRes (FairP K V len t w) W) := by
  have hno : ¬ FairP K V len t w := fun hp => by unfold FairP at hp; omega
  rcases (by omega : t < 1 ∨ (1 ≤ t ∧ 8 < t) ∨ (1 ≤ t ∧ t ≤ 8 ∧ w < 4 * t)) with c | ⟨c, c'⟩ | ⟨c, c', c''⟩
  all_goals
    clear h
    go_enter Try.func14, Try.ntmps14
    go_wp2
    go_ret
    exact FairRes.no hno (Below.refl _ _)

theorem fairP_nat {K V : Nat → Int} {len t w : Nat} (h1 : 1 ≤ t) (h2 : t ≤ 8) (h3 : 4 * t ≤ w) : FairP K V len t w ↔ ∀ i : Nat, i + w ≤ len → FairW K V t w i := by
  unfold FairP
  constructor
  · intro h i hi
    have := h.2 i (by omega)
    simpa using this
  · intro h
    refine ⟨by omega, fun i hi => ?_⟩
    simpa using h i (by omega)

set_option maxHeartbeats 400000 in
theorem refFair_yes (A : Option Addr) (len cap : Nat) (K V : Nat → Int) (t w : Nat) (W : World) (h1 : 1 ≤ t) (h2 : t ≤ 8) (h3 : 4 * t ≤ w) (h4 : w ≤ 9223372036854775807) (hl : len ≤ 1000000)
    (hsl : Sl W A (len * 2) (pickCells K V)) :
    Calls Try.prog 14 #[.slice A len cap, .int .i64 t, .int .i64 w] W (FairRes (FairP K V len t w) W) := by
  have HP := Lib.hid (fairP_nat (K := K) (V := V) (len := len) h1 h2 h3)
  go_enter Try.func14, Try.ntmps14
  go_wp2
  go_loop [7] (fun v => ∃ i : Nat, v = .int .i64 i ∧ (i = 0 ∨ i + w ≤ len + 1) ∧ ∀ j, j < i → FairW K V t w j) (fun v => len + 1 - (intOf v).toNat)
  case atStart => exact ⟨0, rfl, .inl rfl, fun j hj => absurd hj (by omega)⟩
  case round =>
    obtain ⟨i, rfl, hi, hdone⟩ := hrel
    by_cases hlt : i + w ≤ len
    · have hlt' : (i : Int) ≤ (len : Int) - (w : Int) := by omega
      go_wp2
      go_loop [8] (fun v => ∃ who : Nat, v = .int .i64 who ∧ who ≤ t ∧ ∀ j, j < who → Has K V 0 j i (i + w) ∧ Has K V 1 j i (i + w)) (fun v => t - (intOf v).toNat)
      case atStart => exact ⟨0, rfl, by omega, fun j hj => absurd hj (by omega)⟩
      case round =>
        obtain ⟨who, rfl, hwho, hwdone⟩ := hrel
        by_cases hwlt : who < t
        · go_wp2
          go_loop [9, 10, 11] (fun s f v => ∃ (k : Nat) (bs bf : Bool), i ≤ k ∧ k ≤ i + w ∧ v = .int .i64 k ∧ s = .bool bs ∧ f = .bool bf ∧ (bs = true ↔ Has K V 0 who i k) ∧ (bf = true ↔ Has K V 1 who i k)) (fun _ _ v => i + w - (intOf v).toNat)
          case atStart => exact ⟨i, false, false, by omega, by omega, rfl, rfl, rfl, by simp [Has.none_], by simp [Has.none_]⟩
          case round =>
            obtain ⟨k, bs, bf, hik, hkw, rfl, rfl, rfl, hbs, hbf⟩ := hrel
            by_cases hklt : k < i + w
            · obtain ⟨b, off, rfl, hbW, hcW⟩ := hsl (by omega)
              have hc0 := hcW (k * 2) (by omega)
              have hc1 := hcW (k * 2 + 1) (by omega)
              rw [pickCells_0] at hc0
              rw [pickCells_1, ← Nat.add_assoc] at hc1
              clear hcW hsl
              have HB := Lib.hid hbs
              have HF := Lib.hid hbf
              clear hbs hbf
              cases bs <;> cases bf
              all_goals
                go_wp2
                all_goals
                  refine ⟨⟨k + 1, _, _, by omega, by omega, by go_num, rfl, rfl, ?_, ?_⟩, by simp [intOf]; omega⟩
                  · rw [Has.snoc hik, ← HB.out]
                    first | (simp; done) | (simp; omega) | (simp [*]; done)
                  · rw [Has.snoc hik, ← HF.out]
                    first | (simp; done) | (simp; omega) | (simp [*]; done)
            · obtain rfl : k = i + w := by omega
              have HB := Lib.hid hbs
              have HF := Lib.hid hbf
              clear hbs hbf
              cases bs <;> cases bf
              all_goals
                go_wp2
                first
                  | (refine ⟨⟨who + 1, by go_num, by omega, fun j hj => ?_⟩, by simp [intOf]; omega⟩
                     by_cases hjw : j = who
                     · subst hjw; exact ⟨HB.out.1 rfl, HF.out.1 rfl⟩
                     · exact hwdone j (by omega))
                  | (go_ret
                     refine FairRes.no (fun hp => ?_) (Below.refl _ _)
                     have h0 := (HP.out.1 hp i hlt) who hwlt
                     first | exact Bool.false_ne_true (HB.out.2 h0.1) | exact Bool.false_ne_true (HF.out.2 h0.2))
        · obtain rfl : who = t := by omega
          go_wp2
          refine ⟨⟨i + 1, by go_num, by omega, fun j hj => ?_⟩, by simp [intOf]; omega⟩
          by_cases hji : j = i
          · subst hji; exact hwdone
          · exact hdone j (by omega)
    · have hlt' : ¬ (i : Int) ≤ (len : Int) - (w : Int) := by omega
      go_wp2
      go_ret
      exact FairRes.yes (HP.out.2 fun j hj => hdone j (by omega)) (Below.refl _ _)
end Go.Proofs.Ytiodfcemggfnfaa
