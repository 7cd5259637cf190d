/- ref09.own. -/
import Derived.Test.YtjmnogpnjombgaaDoorTsB2
namespace Go.Proofs.YtjmnogpnjombgaaDoor
open Go.ChangeShapes Go.WideShapes Go.ChangeAt Go.RowKit Go.Deep
set_option linter.unusedVariables false
set_option maxRecDepth 100000
set_option linter.unusedSimpArgs false

theorem fnB_hit (a : Int) : ∀ (q : List Ent) (i : Nat), i < q.length → (q.getD i (0, 0)).1 = a → (∀ j, i < j → j < q.length → (q.getD j (0, 0)).1 ≠ a) → fnB q a = ((q.getD i (0, 0)).2, true)
  | [], i, hi, _, _ => absurd hi (by simp)
  | x :: q, 0, _, ha, hm => by
    have hmiss : (fnB q a).2 = false := by
      have : ∀ (q : List Ent), (∀ j, j < q.length → (q.getD j (0, 0)).1 ≠ a) → (fnB q a).2 = false := by
        intro q
        induction q with
        | nil => intro _; rfl
        | cons y q ih =>
          intro h
          have h1 := ih (fun j hj => by have := h (j + 1) (by simpa using hj); simpa using this)
          unfold fnB
          rw [h1, if_neg (by decide), if_neg (by have := h 0 (by simp); simpa using this)]
      exact this q (fun j hj => by have := hm (j + 1) (by omega) (by simpa using hj); simpa using this)
    unfold fnB
    rw [hmiss, if_neg (by decide), if_pos (by simpa using ha)]
    rfl
  | x :: q, i + 1, hi, ha, hm => by
    have h1 := fnB_hit a q i (by simpa using hi) (by simpa using ha) (fun j hj hl => by have := hm (j + 1) (by omega) (by simpa using hl); simpa using this)
    unfold fnB
    rw [h1, if_pos rfl]
    simp
theorem fnB_miss (a : Int) : ∀ (q : List Ent), (∀ j, j < q.length → (q.getD j (0, 0)).1 ≠ a) → fnB q a = (0, false)
  | [], _ => rfl
  | y :: q, h => by
    have h1 := fnB_miss a q (fun j hj => by have := h (j + 1) (by simpa using hj); simpa using this)
    unfold fnB
    rw [h1, if_neg (by decide), if_neg (by have := h 0 (by simp); simpa using this)]

set_option maxHeartbeats 4000000 in
theorem own_any (eA : Option Addr) (ecap : Nat) (l : List Evt) (n : Nat) (hl : l.length = n) (hn : n ≤ 1000000000) (who a : Int) (W : World) (he : SlE W eA n 8 (fun i => (l.getD i evz).cells)) :
    Calls Tryd.prog 87 #[.slice eA n ecap, .int .i64 who, .int .i64 a] W fun e W' => e = .returned (.tuple #[.int .u32 (fnB (waitL l who) a).1, .int .i64 (if (fnB (waitL l who) a).2 = true then 1 else 0)]) ∧ Below W.heap.size W W' := by
  have cW := waiting_any eA ecap l n hl hn who W he
  have hmap := waitE_map l who
  obtain ⟨q, hq⟩ : ∃ q, waitE l who = q := ⟨_, rfl⟩
  obtain ⟨p, hp⟩ : ∃ p, waitL l who = p := ⟨_, rfl⟩
  rw [hq] at cW hmap
  rw [hp] at hmap ⊢
  have hql : q.length ≤ 1000000000 := by
    have h9 : ∀ (m : List Evt), (waitE m who).length ≤ m.length := fun m => by
      suffices h : ∀ (m q : List Evt), (m.foldl (wqE who) q).length ≤ q.length + m.length from by have := h m []; rw [List.length_nil, Nat.zero_add] at this; exact this
      intro m
      induction m with
      | nil => intro q; simp
      | cons y m ih =>
        intro q
        rw [List.foldl_cons]
        have h1 := ih (wqE who q y)
        have h2 : (wqE who q y).length ≤ q.length + 1 := by
          unfold wqE
          split
          · split
            · simp
            · split
              · simp; omega
              · omega
          · omega
        rw [List.length_cons]
        omega
    rw [← hq]
    have := h9 l
    omega
  have HM := Lib.hid hmap
  obtain ⟨rv, hrv⟩ : ∃ r, Value.tuple #[.int .u32 (fnB p a).1, .int .i64 (if (fnB p a).2 = true then 1 else 0)] = r := ⟨_, rfl⟩
  rw [hrv]
  have HRV := Lib.hid hrv
  clear hq hp hmap he hl hrv
  go_enter Tryd.func87, Tryd.ntmps87
  go_wp2_with fail
  with_reducible refine cW.mono ?_
  rintro e W2 ⟨v, rfl, hQ, hb⟩
  obtain ⟨qn, hqn⟩ : ∃ m, q.length = m := ⟨_, rfl⟩
  have HQ := Lib.hid (And.intro hQ hb)
  rw [hqn] at hql hQ
  obtain ⟨_, ao, cap, rfl, _⟩ := hQ
  have HQN := Lib.hid hqn
  clear cW hb hqn
  go_wp2
  go_loopw [9] (fun i wr => wr = W2 ∧ ∃ k : Nat, k ≤ qn ∧ i = .int .i64 ((k : Int) - 1) ∧ Hid (∀ j, k ≤ j → j < p.length → (p.getD j (0, 0)).1 ≠ a)) (fun i _ => (intOf i + 1).toNat)
  case atStart => exact ⟨rfl, qn, Nat.le_refl _, rfl, Lib.hid (fun j h1 h2 => by rw [← HM.out, List.length_map, HQN.out] at h2; omega)⟩
  case round =>
    obtain ⟨rfl, k, hk, rfl, HK⟩ := hrel
    by_cases hk0 : k = 0
    · subst hk0
      have hz : ¬ (0 : Int) ≤ ((0 : Nat) : Int) - 1 := by omega
      go_wp2
      go_ret2
      refine ⟨?_, HQ.out.2⟩
      rw [← HRV.out, fnB_miss a p (fun j hj => HK.out j (Nat.zero_le _) hj)]
      rfl
    · obtain ⟨i, rfl⟩ : ∃ i, k = i + 1 := ⟨k - 1, by omega⟩
      have hin : i < qn := by omega
      have e1 : (((i + 1 : Nat) : Int) - 1) = (i : Int) := by omega
      rw [e1]
      have hi0 : (0 : Int) ≤ (i : Int) := by omega
      have hi1 : (i : Int) < (qn : Int) := by omega
      obtain ⟨g, off, c2, e2, hg, hcell⟩ := HQ.out.1.cell (by rw [HQN.out]; omega)
      injection e2 with e2 _ e3
      subst e2 e3
      obtain ⟨y, hy⟩ : ∃ y, q.getD i evz = y := ⟨_, rfl⟩
      have hiq : i < q.length := by rw [HQN.out]; exact hin
      have hpy : p.getD i (0, 0) = (y.addr, y.value) := by
        rw [← HM.out, ← hy]
        simp only [List.getD_eq_getElem?_getD, List.getElem?_map, List.getElem?_eq_getElem hiq]
        rfl
      have hip : i < p.length := by rw [← HM.out, List.length_map]; exact hiq
      have hfl : ∀ j (u : Value), y.cells[j]? = some u → wr.cell? ⟨g, off + i * 8 + j, none⟩ = some u := fun j u hu => by
        have hj : j < 8 := (List.getElem?_eq_some_iff.1 hu).1
        have hf := flat_get Evt.cells 8 (fun _ => rfl) evz q i hiq j hj
        rw [hy, hu] at hf
        rw [Nat.add_assoc, hcell (i * 8 + j) (by rw [HQN.out]; omega), hf]
      have y3 := hfl 3 _ rfl
      have y4 := hfl 4 _ rfl
      have HP := Lib.hid (And.intro hpy hip)
      obtain ⟨kd, wh, pc, ad, vl, ol, kk, ok⟩ := y
      dsimp only at y3 y4
      clear hfl hcell hpy hip hiq hy
      by_cases had : ad = a
      · subst had
        go_wp2
        go_ret2
        refine ⟨?_, HQ.out.2⟩
        rw [← HRV.out, fnB_hit ad p i HP.out.2 (by rw [HP.out.1]) (fun j h1 h2 => HK.out j h1 h2), HP.out.1]
        rfl
      · have had' : (ad == a) = false := by simpa using had
        go_wp2
        go_roundw
        case rel =>
          refine ⟨trivial, i, by omega, by go_num, Lib.hid (fun j h1 h2 => ?_)⟩
          rcases Nat.eq_or_lt_of_le h1 with h3 | h3
          · rw [← h3, HP.out.1]; exact had
          · exact HK.out j h3 h2
        case measure => simp [intOf]
end Go.Proofs.YtjmnogpnjombgaaDoor
