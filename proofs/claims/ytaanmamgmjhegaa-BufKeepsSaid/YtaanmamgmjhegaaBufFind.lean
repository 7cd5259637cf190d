/- Find. -/
import Derived.Test.YtaanmamgmjhegaaBufPop
namespace Go.Proofs.Ytaanmamgmjhegaa
open Go.ChangeShapes Go.WideShapes Go.ChangeAt Go.RowKit Go.Deep
set_option linter.unusedVariables false
set_option linter.unusedSimpArgs false

/-- The youngest entry of an address. -/
inductive FindP (l : List Ent) (a : Int) : Int → Bool → Prop
  | hit (i : Nat) : i < l.length → (l.getD i (0, 0)).1 = a → (∀ j, i < j → j < l.length → (l.getD j (0, 0)).1 ≠ a) → FindP l a (l.getD i (0, 0)).2 true
  | miss : (∀ j, j < l.length → (l.getD j (0, 0)).1 ≠ a) → FindP l a 0 false

theorem findP_some (l : List Ent) (a : Int) : ∃ v b, FindP l a v b := by
  have key : ∀ n, n ≤ l.length → (∃ i, i < n ∧ (l.getD i (0, 0)).1 = a ∧ ∀ j, i < j → j < n → (l.getD j (0, 0)).1 ≠ a) ∨ ∀ j, j < n → (l.getD j (0, 0)).1 ≠ a := by
    intro n
    induction n with
    | zero => exact fun _ => .inr fun j hj => absurd hj (by omega)
    | succ n ih =>
      intro hn
      by_cases h : (l.getD n (0, 0)).1 = a
      · exact .inl ⟨n, by omega, h, fun j h1 h2 => absurd h1 (by omega)⟩
      · rcases ih (by omega) with ⟨i, hi, h1, h2⟩ | h2
        · refine .inl ⟨i, by omega, h1, fun j h3 h4 => ?_⟩
          rcases (by omega : j < n ∨ j = n) with h5 | rfl
          · exact h2 j h3 h5
          · exact h
        · refine .inr fun j hj => ?_
          rcases (by omega : j < n ∨ j = n) with h5 | rfl
          · exact h2 j h5
          · exact h
  rcases key l.length (Nat.le_refl _) with ⟨i, hi, h1, h2⟩ | h
  · exact ⟨_, _, .hit i hi h1 h2⟩
  · exact ⟨_, _, .miss h⟩

set_option maxHeartbeats 1000000 in
theorem find_any (cs : Array Value) (l : List Ent) (room : Int) (h : Buf cs l room) (a v : Int) (is : Bool) (hF : FindP l a v is) (w : World) :
    Calls Try.prog 17 #[.agg cs, .int .i64 a] w fun e w' => e = .returned (.tuple #[.int .u32 v, .bool is]) ∧ Below w.heap.size w w' := by
  have hB := (Below.refl w.heap.size w).alloc (Nat.le_refl _) (Obj.cells cs 29)
  have hq := Blk.new w 29 cs
  obtain ⟨R, first, hfi, hc, hl⟩ := h.ex
  have hle := h.le
  have hn : cs[33]? = some (.int .i64 l.length) := hc.n
  have HF := Lib.hid hF
  have HL := Lib.hid hl
  clear hF hl
  go_enter Try.func17, Try.ntmps17
  go_wp2_with fail
  clear hn
  obtain ⟨w0, hw0⟩ : ∃ w0, w.alloc (Obj.cells cs 29) = w0 := ⟨_, rfl⟩
  rw [hw0] at hB hq ⊢
  clear hw0
  go_loopw [6] (fun s wr => ∃ k : Nat, k ≤ l.length ∧ s = .int .i64 ((k : Int) - 1) ∧ (∀ j, k ≤ j → j < l.length → (l.getD j (0, 0)).1 ≠ a) ∧ Below w0.heap.size w0 wr) (fun s _ => (intOf s + 1).toNat)
  case atStart => exact ⟨l.length, Nat.le_refl _, rfl, fun j h1 h2 => absurd h1 (by omega), Below.refl _ _⟩
  case round =>
    obtain ⟨k, hk, rfl, hno, hBr⟩ := hrel
    have hBw := step_below hB hBr
    rcases k with _ | k
    · have hm : FindP l a 0 false := .miss fun j hj => hno j (Nat.zero_le _) hj
      obtain ⟨rfl, rfl⟩ : v = 0 ∧ is = false := by
        cases HF.out with
        | hit i hi h1 h2 => exact absurd h1 (hno i (Nat.zero_le _) hi)
        | miss _ => exact ⟨rfl, rfl⟩
      clear hno hm
      go_wp2
      go_ret2
      exact ⟨rfl, hBw⟩
    · have hs : ((k + 1 : Nat) : Int) - 1 = (k : Int) := by omega
      rw [hs]
      clear hs
      have hqr := hq.below hBr hq.lt
      have cA := at_any cs R first _ room hc hfi (k : Int) (by omega) (by omega)
      rw [Int.toNat_natCast] at cA
      have hR := HL.out k (by omega)
      have hat : (first + k) % 16 < 16 := Nat.mod_lt _ (by decide)
      generalize (first + k) % 16 = q at cA hR hat
      have a0 := hc.addr q hat
      have a1 := hc.val q hat
      rw [hR] at a0 a1
      have HN := Lib.hid hno
      have hk0 : 0 ≤ (k : Int) := by omega
      have hq16 : (q : Int) < 16 := by omega
      have hinf := h.info
      clear hno hR
      obtain ⟨z, hz⟩ : ∃ z, l.getD k (0, 0) = z := ⟨_, rfl⟩
      rw [hz] at a0 a1
      have HZ := Lib.hid hz
      clear hz
      by_cases hza : z.1 = a
      · have hab : (z.1 == a) = true := by rw [beq_iff_eq]; exact hza
        have hres : v = z.2 ∧ is = true := by
          cases HF.out with
          | hit i hi h1 h2 =>
            rcases (by omega : i < k ∨ i = k ∨ k < i) with h3 | rfl | h3
            · exact absurd (by rw [HZ.out]; exact hza) (h2 k h3 (by omega))
            · exact ⟨by rw [HZ.out], rfl⟩
            · exact absurd h1 (HN.out i (by omega) hi)
          | miss h1 => exact absurd (by rw [HZ.out]; exact hza) (h1 k (by omega))
        obtain ⟨rfl, rfl⟩ := hres
        clear hza
        go_wp2_with (first
          | (refine wpList_load_row rfl 29 (.tmp 2) rfl _ rfl 29 cs (0, 0) _ hqr Try.underlying29 rfl hinf ?_)
          | (go_at_call 33; refine (cA _).mono ?_; rintro e w2 ⟨rfl, hb2⟩; have hq2 := hqr.below hb2 hqr.lt; have e0 := (hq2.cell (q * 2)).trans a0; have e1 := (hq2.cell (q * 2 + 1)).trans a1; have hB2 := step_below hBr hb2; clear hqr cA))
        go_ret2
        exact ⟨rfl, (step_below hB hB2).alloc (step_below hB hB2).size _⟩
      · have hab : (z.1 == a) = false := by rw [beq_eq_false_iff_ne]; exact hza
        have HA := Lib.hid hza
        clear hza
        go_wp2_with (first
          | (refine wpList_load_row rfl 29 (.tmp 2) rfl _ rfl 29 cs (0, 0) _ hqr Try.underlying29 rfl hinf ?_)
          | (go_at_call 33; refine (cA _).mono ?_; rintro e w2 ⟨rfl, hb2⟩; have hq2 := hqr.below hb2 hqr.lt; have e0 := (hq2.cell (q * 2)).trans a0; have e1 := (hq2.cell (q * 2 + 1)).trans a1; have hB2 := step_below hBr hb2; clear hqr cA))
        go_roundw
        case rel => exact ⟨k, by omega, rfl, fun j h1 h2 => by
          rcases (by omega : j = k ∨ k + 1 ≤ j) with rfl | h3
          · rw [HZ.out]; exact HA.out
          · exact HN.out j h3 h2, hB2.alloc hB2.size _⟩
        case measure => simp [intOf]
end Go.Proofs.Ytaanmamgmjhegaa
