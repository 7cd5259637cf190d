/- seq (plain): by fair scripts writers and readers come to an end: what is left to do, who is helped. -/
import Derived.Test.YtmhfpjnkjlhbpaaGreatDoorQc30
import Derived.Test.YtmhfpjnkjlhbpaaGreatDoorQc34
namespace Go.Proofs.YtmhfpjnkjlhbpaaGreatDoor
open Go.ChangeShapes Go.WideShapes Go.ChangeAt Go.RowKit Go.Deep
set_option linter.unusedVariables false
set_option maxRecDepth 100000
set_option linter.unusedSimpArgs false
theorem sgL_sleeps {t q g o : Nat} {k : Sg} {op : Op} (h : (sgL t q g k)[o]? = some op) : op.sleeps = false := by
  have hm := List.mem_of_getElem? h
  cases k
  all_goals (simp only [sgL, List.mem_cons, List.not_mem_nil, or_false] at hm)
  · rcases hm with rfl | rfl | rfl | rfl | rfl | rfl | rfl | rfl | rfl | rfl | rfl | rfl | rfl | rfl | rfl | rfl | rfl <;> rfl
  · rcases hm with rfl | rfl | rfl | rfl | rfl | rfl | rfl | rfl | rfl | rfl <;> rfl
  · rcases hm with rfl | rfl | rfl | rfl | rfl | rfl | rfl | rfl | rfl | rfl | rfl | rfl | rfl <;> rfl
  · rcases hm with rfl | rfl | rfl | rfl | rfl <;> rfl
  · rcases hm with rfl; rfl
  · rcases hm with rfl | rfl | rfl | rfl | rfl <;> rfl
  · rcases hm with rfl; rfl
/-! ### places -/
def Plc (kd : Nat -> Sg) (sn n o : Nat) : Prop := (n < sn /\ o < sgLen (kd n)) ∨ (n = sn /\ o = 0)
section
variable {kd : Nat -> Sg} {bs : Nat -> Nat} {sn : Nat}
theorem plc_le (hx : ∀ n, bs (n + 1) = bs n + sgLen (kd n)) {n m : Nat} (h : n <= m) : bs n <= bs m := bs_mono (rd := m) (ln := fun n => sgLen (kd n)) (fun n _ => hx n) h (Nat.le_refl _)
theorem plc_uniq (hx : ∀ n, bs (n + 1) = bs n + sgLen (kd n)) {n o n' o' : Nat} (h : Plc kd sn n o) (h' : Plc kd sn n' o') (e : bs n + o = bs n' + o') : n = n' /\ o = o' := by
  have key : ∀ {a b c d : Nat}, Plc kd sn a b -> Plc kd sn c d -> bs a + b = bs c + d -> ¬ a < c := fun {a b c d} p q e hlt => by
    have h1 := plc_le hx (show a + 1 <= c from hlt)
    rw [hx] at h1
    rcases p with p | p
    · omega
    · rcases q with q | q <;> omega
  have h1 := key h h' e
  have h2 := key h' h e.symm
  have : n = n' := by omega
  subst this
  exact ⟨rfl, by omega⟩
theorem plc_next (hx : ∀ n, bs (n + 1) = bs n + sgLen (kd n)) {n o : Nat} (hn : n < sn) (ho : o < sgLen (kd n)) : ∃ n' o', Plc kd sn n' o' /\ bs n' + o' = bs n + o + 1 /\ ((n' = n /\ o' = o + 1 /\ o + 1 < sgLen (kd n)) ∨ (n' = n + 1 /\ o' = 0 /\ o + 1 = sgLen (kd n))) := by
  by_cases c : o + 1 < sgLen (kd n)
  · exact ⟨n, o + 1, .inl ⟨hn, c⟩, rfl, .inl ⟨rfl, rfl, c⟩⟩
  · refine ⟨n + 1, 0, ?_, by rw [hx]; omega, .inr ⟨rfl, rfl, by omega⟩⟩
    rcases Nat.lt_or_ge (n + 1) sn with d | d
    · exact .inl ⟨d, by cases kd (n + 1) <;> (simp only [sgLen]; omega)⟩
    · exact .inr ⟨by omega, rfl⟩
def spW (k : Sg) (o : Nat) (r4 : Int) : Bool := match k with
  | .wh => o == 7 || o == 8 || (o == 9 && decide (r4 ≠ 0))
  | _ => false
def dW (k : Sg) (o : Nat) (r4 : Int) : Nat := if spW k o r4 = true then (if o = 7 then 2 else if o = 8 then 1 else 3) else 0
theorem dW_le (k : Sg) (o : Nat) (r4 : Int) : dW k o r4 ≤ 3 := by unfold dW; repeat' split
                                                                  all_goals omega
theorem spW_o {k : Sg} {o : Nat} {r4 : Int} (h : spW k o r4 = true) : k = .wh /\ 7 <= o /\ o <= 9 := by
  unfold spW at h
  split at h
  · simp only [Bool.or_eq_true, Bool.and_eq_true, beq_iff_eq, decide_eq_true_eq] at h
    exact ⟨rfl, by omega, by omega⟩
  · cases h
def wpos (bs : Nat -> Nat) (kd : Nat -> Sg) (n o : Nat) (r4 : Int) : Nat := bs n + (if spW (kd n) o r4 = true then 7 else o)
theorem wpos_ge {n o : Nat} {r4 : Int} : bs n + min o 7 <= wpos bs kd n o r4 := by
  unfold wpos
  split
  · omega
  · omega
theorem wpos_no {n o : Nat} {r4 : Int} (h : spW (kd n) o r4 = false) : wpos bs kd n o r4 = bs n + o := by unfold wpos; rw [h]; rfl
theorem wpos_yes {n o : Nat} {r4 : Int} (h : spW (kd n) o r4 = true) : wpos bs kd n o r4 = bs n + 7 := by unfold wpos; rw [h]; rfl
theorem plc_adv (hx : ∀ n, bs (n + 1) = bs n + sgLen (kd n)) {n o : Nat} {r4 r4' : Int} {k k' : Nat} (hn : n < sn) (ho : o < sgLen (kd n)) (h1 : kd n = .wh -> (o <= 6 ∨ 9 <= o)) (h2 : spW (kd n) o r4 = false) (hk : k' <= k + 1) :
    ∃ n' o', Plc kd sn n' o' /\ bs n' + o' = bs n + o + 1 /\ 2 * (bs sn - wpos bs kd n' o' r4') + k' < 2 * (bs sn - wpos bs kd n o r4) + k := by
  obtain ⟨n', o', p1, p2, p3⟩ := plc_next hx hn ho
  refine ⟨n', o', p1, p2, ?_⟩
  have hT := plc_le hx (show n + 1 <= sn from hn)
  rw [hx] at hT
  rw [wpos_no h2]
  have hw : bs n + o + 1 <= wpos bs kd n' o' r4' := by
    rcases p3 with ⟨rfl, rfl, p4⟩ | ⟨rfl, rfl, p4⟩
    · cases hs : spW (kd n') (o + 1) r4' with
      | true =>
        obtain ⟨q1, q2, q3⟩ := spW_o hs
        rw [wpos_yes hs]
        have := h1 q1
        omega
      | false => rw [wpos_no hs]; omega
    · have := wpos_ge (bs := bs) (kd := kd) (n := n + 1) (o := 0) (r4 := r4')
      rw [hx] at this
      omega
  omega
theorem plc_jmp (hx : ∀ n, bs (n + 1) = bs n + sgLen (kd n)) {n o o' : Nat} {r4 r4' : Int} {k : Nat} (hn : n < sn) (ho : o' < sgLen (kd n)) (h1 : o < o' /\ o' <= 7) (h2 : spW (kd n) o r4 = false) :
    Plc kd sn n o' /\ 2 * (bs sn - wpos bs kd n o' r4') + k < 2 * (bs sn - wpos bs kd n o r4) + k := by
  have hT := plc_le hx (show n + 1 <= sn from hn)
  rw [hx] at hT
  refine ⟨.inl ⟨hn, ho⟩, ?_⟩
  rw [wpos_no h2]
  have := wpos_ge (bs := bs) (kd := kd) (n := n) (o := o') (r4 := r4')
  omega
end
def penR (k : Sg) (o : Nat) (r : Nat -> Int) (s : Int) : Nat := match k, o with
  | .rh, 2 | .rh, 3 | .rh, 4 => if r 4 = s then 0 else 500
  | .rl _, _ => if r 4 = s then 0 else 500
  | .rt, 0 => if r 4 = s then 0 else 500
  | .rt, 1 => if r 4 = r 5 then 0 else 500
  | .rt, 2 => if r 6 = 0 then 500 else 0
  | _, _ => 0
theorem penR_le (k : Sg) (o : Nat) (r : Nat -> Int) (s : Int) : penR k o r s <= 500 := by
  unfold penR
  split
  all_goals first
    | omega
    | (split <;> omega)
def isWk : Sg -> Bool
  | .wh | .wp _ | .wt => true
  | _ => false
/-! ### what an instruction does to it -/
section
variable {C : SqC} {v : Vw} {g : SG} {t n o : Nat} {r : Nat -> Int} {op : Op}
theorem sq_wr (H : SqI C v g) (ht : t < C.nt) (hn : n < C.sn t) (ho : o < sgLen (C.kd t n)) (hA : sgA C.N (g.at_ v t) (C.rn t n) t r (v.bf t) (C.kd t n) o) (hW : isWk (C.kd t n) = true)
    (hop : (sgL t (C.bs t n) (C.bs t (C.gn t n) + 1) (C.kd t n))[o]? = some op) :
    ∃ n' o', Plc (C.kd t) (C.sn t) n' o' /\ ((execV t v (C.bs t n + o) r op).th t).pc = ((C.bs t n' + o' : Nat) : Int) /\
      (2 * (C.bs t (C.sn t) - wpos (C.bs t) (C.kd t) n' o' (((execV t v (C.bs t n + o) r op).th t).regs 4)) + ((execV t v (C.bs t n + o) r op).bf t).length < 2 * (C.bs t (C.sn t) - wpos (C.bs t) (C.kd t) n o (r 4)) + (v.bf t).length ∨
       (n' = n /\ spW (C.kd t n) o (r 4) = true /\ spW (C.kd t n) o' (((execV t v (C.bs t n + o) r op).th t).regs 4) = true /\ SameM v (execV t v (C.bs t n + o) r op) t /\ (v.mem 17 = 0 -> dW (C.kd t n) o' (((execV t v (C.bs t n + o) r op).th t).regs 4) < dW (C.kd t n) o (r 4)))) := by
  have K := H.ok.k t ht
  have hx := K.nx
  -- straight on
  have go : op.straight = true -> (C.kd t n = .wh -> (o <= 6 ∨ 9 <= o)) -> spW (C.kd t n) o (r 4) = false -> ∃ n' o', Plc (C.kd t) (C.sn t) n' o' /\ ((execV t v (C.bs t n + o) r op).th t).pc = ((C.bs t n' + o' : Nat) : Int) /\
      (2 * (C.bs t (C.sn t) - wpos (C.bs t) (C.kd t) n' o' (((execV t v (C.bs t n + o) r op).th t).regs 4)) + ((execV t v (C.bs t n + o) r op).bf t).length < 2 * (C.bs t (C.sn t) - wpos (C.bs t) (C.kd t) n o (r 4)) + (v.bf t).length ∨
       (n' = n /\ spW (C.kd t n) o (r 4) = true /\ spW (C.kd t n) o' (((execV t v (C.bs t n + o) r op).th t).regs 4) = true /\ SameM v (execV t v (C.bs t n + o) r op) t /\ (v.mem 17 = 0 -> dW (C.kd t n) o' (((execV t v (C.bs t n + o) r op).th t).regs 4) < dW (C.kd t n) o (r 4)))) := fun h1 h2 h3 => by
    obtain ⟨r', e1, e2⟩ := straight_exec h1 t v (C.bs t n + o) r
    obtain ⟨n', o', p1, p2, p3⟩ := plc_adv (r4' := r' 4) hx hn ho h2 h3 e2
    refine ⟨n', o', p1, by rw [e1, p2], .inl ?_⟩
    rw [e1]
    exact p3
  generalize hkd : C.kd t n = k at *
  cases k with
  | rh => cases hW
  | rl i => cases hW
  | rt => cases hW
  | ro i => cases hW
  | wp i =>
    have hs : ∀ o r4, spW (.wp i) o r4 = false := fun _ _ => rfl
    match o, ho, hA, hop with
    | 4, _, hA, hop =>
      obtain rfl : _ = op := Option.some.inj hop
      have h6 : r 6 = 1 := by simp only [sgA] at hA; exact hA.2.2
      obtain ⟨p1, p2⟩ := plc_jmp (bs := C.bs t) (o := 4) (o' := 7) (r4 := r 4) (r4' := r 4) (k := (v.bf t).length) hx hn (by rw [hkd]; show 7 < _; simp [sgLen]) ⟨by decide, by decide⟩ (by rw [hkd]; rfl)
      have e1 : (execV t v (C.bs t n + 4) r (.some 6 (C.bs t n + 7))).th t = ⟨((C.bs t n + 7 : Nat) : Int), r, 0⟩ := by
        show upd v.th t _ t = _
        rw [upd_same, if_neg (by rw [h6]; decide)]
      have e2 : (execV t v (C.bs t n + 4) r (.some 6 (C.bs t n + 7))).bf t = v.bf t := by show upd v.bf t _ t = _; rw [upd_same]
      exact ⟨n, 7, p1, by rw [e1], .inl (by rw [e1, e2]; exact p2)⟩
    | 0, _, hA, hop => obtain rfl : _ = op := Option.some.inj hop; exact go rfl (fun q => by cases q) rfl
    | 1, _, hA, hop => obtain rfl : _ = op := Option.some.inj hop; exact go rfl (fun q => by cases q) rfl
    | 2, _, hA, hop => obtain rfl : _ = op := Option.some.inj hop; exact go rfl (fun q => by cases q) rfl
    | 3, _, hA, hop => obtain rfl : _ = op := Option.some.inj hop; exact go rfl (fun q => by cases q) rfl
    | 5, _, hA, hop => exact hA.elim
    | 6, _, hA, hop => exact hA.elim
    | 7, _, hA, hop => obtain rfl : _ = op := Option.some.inj hop; exact go rfl (fun q => by cases q) rfl
    | 8, _, hA, hop => obtain rfl : _ = op := Option.some.inj hop; exact go rfl (fun q => by cases q) rfl
    | 9, _, hA, hop => obtain rfl : _ = op := Option.some.inj hop; exact go rfl (fun q => by cases q) rfl
    | o + 10, ho, _, _ => exact absurd ho (by show ¬ o + 10 < 10; omega)
  | wt =>
    match o, ho, hA, hop with
    | 4, _, hA, hop =>
      obtain rfl : _ = op := Option.some.inj hop
      have h6 : r 6 = 1 := by simp only [sgA] at hA; exact hA.2
      obtain ⟨p1, p2⟩ := plc_jmp (bs := C.bs t) (o := 4) (o' := 7) (r4 := r 4) (r4' := r 4) (k := (v.bf t).length) hx hn (by rw [hkd]; show 7 < _; simp [sgLen]) ⟨by decide, by decide⟩ (by rw [hkd]; rfl)
      have e1 : (execV t v (C.bs t n + 4) r (.some 6 (C.bs t n + 7))).th t = ⟨((C.bs t n + 7 : Nat) : Int), r, 0⟩ := by
        show upd v.th t _ t = _
        rw [upd_same, if_neg (by rw [h6]; decide)]
      have e2 : (execV t v (C.bs t n + 4) r (.some 6 (C.bs t n + 7))).bf t = v.bf t := by show upd v.bf t _ t = _; rw [upd_same]
      exact ⟨n, 7, p1, by rw [e1], .inl (by rw [e1, e2]; exact p2)⟩
    | 0, _, hA, hop => obtain rfl : _ = op := Option.some.inj hop; exact go rfl (fun q => by cases q) rfl
    | 1, _, hA, hop => obtain rfl : _ = op := Option.some.inj hop; exact go rfl (fun q => by cases q) rfl
    | 2, _, hA, hop => obtain rfl : _ = op := Option.some.inj hop; exact go rfl (fun q => by cases q) rfl
    | 3, _, hA, hop => obtain rfl : _ = op := Option.some.inj hop; exact go rfl (fun q => by cases q) rfl
    | 5, _, hA, hop => exact hA.elim
    | 6, _, hA, hop => exact hA.elim
    | 7, _, hA, hop => obtain rfl : _ = op := Option.some.inj hop; exact go rfl (fun q => by cases q) rfl
    | 8, _, hA, hop => obtain rfl : _ = op := Option.some.inj hop; exact go rfl (fun q => by cases q) rfl
    | 9, _, hA, hop => obtain rfl : _ = op := Option.some.inj hop; exact go rfl (fun q => by cases q) rfl
    | 10, _, hA, hop => obtain rfl : _ = op := Option.some.inj hop; exact go rfl (fun q => by cases q) rfl
    | 11, _, hA, hop => obtain rfl : _ = op := Option.some.inj hop; exact go rfl (fun q => by cases q) rfl
    | 12, _, hA, hop => obtain rfl : _ = op := Option.some.inj hop; exact go rfl (fun q => by cases q) rfl
    | o + 13, ho, _, _ => exact absurd ho (by show ¬ o + 13 < 13; omega)
  | wh =>
    match o, ho, hA, hop with
    | 4, _, hA, hop =>
      obtain rfl : _ = op := Option.some.inj hop
      have h6 : r 6 = 0 := by simp only [sgA] at hA; exact hA.2.1
      obtain ⟨p1, p2⟩ := plc_jmp (bs := C.bs t) (o := 4) (o' := 7) (r4 := r 4) (r4' := r 4) (k := (v.bf t).length) hx hn (by rw [hkd]; show 7 < _; simp [sgLen]) ⟨by decide, by decide⟩ (by rw [hkd]; rfl)
      have e1 : (execV t v (C.bs t n + 4) r (.zero 6 (C.bs t n + 7))).th t = ⟨((C.bs t n + 7 : Nat) : Int), r, 0⟩ := by
        show upd v.th t _ t = _
        rw [upd_same, if_pos h6]
      have e2 : (execV t v (C.bs t n + 4) r (.zero 6 (C.bs t n + 7))).bf t = v.bf t := by show upd v.bf t _ t = _; rw [upd_same]
      exact ⟨n, 7, p1, by rw [e1], .inl (by rw [e1, e2]; exact p2)⟩
    | 7, _, hA, hop =>
      obtain rfl : _ = op := Option.some.inj hop
      have e1 : (execV t v (C.bs t n + 7) r (.set 4 0)).th t = ⟨((C.bs t n + 7 + 1 : Nat) : Int), updR r 4 0, 0⟩ := by show upd v.th t _ t = _; rw [upd_same]
      exact ⟨n, 8, .inl ⟨hn, by rw [hkd]; decide⟩, by rw [e1], .inr ⟨rfl, rfl, rfl, ⟨by show upd v.bf t _ t = _; rw [upd_same], rfl⟩, fun _ => by rw [e1]; show (1 : Nat) < 2; decide⟩⟩
    | 8, _, hA, hop =>
      obtain rfl : _ = op := Option.some.inj hop
      have h4 : r 4 = 0 := by simp only [sgA] at hA; exact hA.2.2
      by_cases hz : v.mem 17 = r 4
      · have e0 : execV t v (C.bs t n + 8) r (.cas 4 5 17) = v.mv t ⟨((C.bs t n + 8 + 1 : Nat) : Int), updR r 4 (v.mem 17), 0⟩ (v.bf t) (upd v.mem 17 (r 5)) [⟨4, (t : Int), ((C.bs t n + 8 : Nat) : Int), ((17 : Nat) : Int), r 5, v.mem 17, 0, true⟩] := if_pos hz
        have e1 : (execV t v (C.bs t n + 8) r (.cas 4 5 17)).th t = ⟨((C.bs t n + 8 + 1 : Nat) : Int), updR r 4 (v.mem 17), 0⟩ := by rw [e0]; show upd v.th t _ t = _; rw [upd_same]
        have e2 : (execV t v (C.bs t n + 8) r (.cas 4 5 17)).bf t = v.bf t := by rw [e0]; show upd v.bf t _ t = _; rw [upd_same]
        refine ⟨n, 9, .inl ⟨hn, by rw [hkd]; decide⟩, by rw [e1], .inl ?_⟩
        have s1 : spW (C.kd t n) 8 (r 4) = true := by rw [hkd]; rfl
        have s2 : spW (C.kd t n) 9 (updR r 4 (v.mem 17) 4) = false := by rw [hkd, updR_at, hz, h4]; rfl
        rw [e1, e2]
        dsimp only
        rw [wpos_yes s1, wpos_no s2]
        have hT := plc_le hx (show n + 1 <= C.sn t from hn)
        rw [hx, hkd] at hT
        simp only [sgLen] at hT
        omega
      · have e0 : execV t v (C.bs t n + 8) r (.cas 4 5 17) = v.mv t ⟨((C.bs t n + 8 + 1 : Nat) : Int), updR r 4 (v.mem 17), 0⟩ (v.bf t) v.mem [⟨4, (t : Int), ((C.bs t n + 8 : Nat) : Int), ((17 : Nat) : Int), v.mem 17, v.mem 17, 0, false⟩] := if_neg hz
        have e1 : (execV t v (C.bs t n + 8) r (.cas 4 5 17)).th t = ⟨((C.bs t n + 8 + 1 : Nat) : Int), updR r 4 (v.mem 17), 0⟩ := by rw [e0]; show upd v.th t _ t = _; rw [upd_same]
        have e2 : (execV t v (C.bs t n + 8) r (.cas 4 5 17)).bf t = v.bf t := by rw [e0]; show upd v.bf t _ t = _; rw [upd_same]
        rw [h4] at hz
        refine ⟨n, 9, .inl ⟨hn, by rw [hkd]; decide⟩, by rw [e1], .inr ⟨rfl, rfl, ?_, ⟨e2, by rw [e0]; rfl⟩, fun q => absurd q hz⟩⟩
        rw [e1]
        dsimp only
        rw [updR_at]
        show (false || false || (true && decide (v.mem 17 ≠ 0))) = true
        rw [decide_eq_true hz]; rfl
    | 9, _, hA, hop =>
      obtain rfl : _ = op := Option.some.inj hop
      by_cases hz : r 4 = 0
      · have e1 : (execV t v (C.bs t n + 9) r (.some 4 (C.bs t n + 7))).th t = ⟨((C.bs t n + 9 + 1 : Nat) : Int), r, 0⟩ := by
          show upd v.th t _ t = _
          rw [upd_same, if_pos hz]
        have e2 : (execV t v (C.bs t n + 9) r (.some 4 (C.bs t n + 7))).bf t = v.bf t := by show upd v.bf t _ t = _; rw [upd_same]
        have s1 : spW (C.kd t n) 9 (r 4) = false := by rw [hkd, hz]; rfl
        obtain ⟨n', o', p1, p2, p3⟩ := plc_adv (bs := C.bs t) (r4 := r 4) (r4' := r 4) (k := (v.bf t).length) (k' := (v.bf t).length) hx hn (by rw [hkd]; decide) (fun _ => .inr (Nat.le_refl _)) s1 (by omega)
        exact ⟨n', o', p1, by rw [e1, p2], .inl (by rw [e1, e2]; exact p3)⟩
      · have e1 : (execV t v (C.bs t n + 9) r (.some 4 (C.bs t n + 7))).th t = ⟨((C.bs t n + 7 : Nat) : Int), r, 0⟩ := by
          show upd v.th t _ t = _
          rw [upd_same, if_neg hz]
        have e2 : (execV t v (C.bs t n + 9) r (.some 4 (C.bs t n + 7))).bf t = v.bf t := by show upd v.bf t _ t = _; rw [upd_same]
        have s1 : spW .wh 9 (r 4) = true := by show (false || false || (true && decide (r 4 ≠ 0))) = true; rw [decide_eq_true hz]; rfl
        refine ⟨n, 7, .inl ⟨hn, by rw [hkd]; decide⟩, by rw [e1], .inr ⟨rfl, s1, rfl, ⟨e2, rfl⟩, fun _ => ?_⟩⟩
        unfold dW
        rw [s1]
        show (2 : Nat) < 3
        decide
    | 0, _, hA, hop => obtain rfl : _ = op := Option.some.inj hop; exact go rfl (fun _ => by omega) rfl
    | 1, _, hA, hop => obtain rfl : _ = op := Option.some.inj hop; exact go rfl (fun _ => by omega) rfl
    | 2, _, hA, hop => obtain rfl : _ = op := Option.some.inj hop; exact go rfl (fun _ => by omega) rfl
    | 3, _, hA, hop => obtain rfl : _ = op := Option.some.inj hop; exact go rfl (fun _ => by omega) rfl
    | 5, _, hA, hop => exact hA.elim
    | 6, _, hA, hop => exact hA.elim
    | 10, _, hA, hop => obtain rfl : _ = op := Option.some.inj hop; exact go rfl (fun _ => by omega) rfl
    | 11, _, hA, hop => obtain rfl : _ = op := Option.some.inj hop; exact go rfl (fun _ => by omega) rfl
    | 12, _, hA, hop => obtain rfl : _ = op := Option.some.inj hop; exact go rfl (fun _ => by omega) rfl
    | 13, _, hA, hop => obtain rfl : _ = op := Option.some.inj hop; exact go rfl (fun _ => by omega) rfl
    | 14, _, hA, hop => obtain rfl : _ = op := Option.some.inj hop; exact go rfl (fun _ => by omega) rfl
    | 15, _, hA, hop => obtain rfl : _ = op := Option.some.inj hop; exact go rfl (fun _ => by omega) rfl
    | 16, _, hA, hop => obtain rfl : _ = op := Option.some.inj hop; exact go rfl (fun _ => by omega) rfl
    | o + 17, ho, _, _ => exact absurd ho (by show ¬ o + 17 < 17; omega)
def pR (kd : Nat -> Sg) (sn n o : Nat) (r : Nat -> Int) (s : Int) : Nat := if n < sn then penR (kd n) o r s else 0
theorem pR_le (kd : Nat -> Sg) (sn n o : Nat) (r : Nat -> Int) (s : Int) : pR kd sn n o r s <= 500 := by
  unfold pR
  split
  · exact penR_le _ _ _ _
  · omega
theorem sq_rd (H : SqI C v g) (ht : t < C.nt) (hn : n < C.sn t) (ho : o < sgLen (C.kd t n)) (hA : sgA C.N (g.at_ v t) (C.rn t n) t r (v.bf t) (C.kd t n) o) (hW : isWk (C.kd t n) = false) (hT : C.bs t (C.sn t) < 500)
    (hop : (sgL t (C.bs t n) (C.bs t (C.gn t n) + 1) (C.kd t n))[o]? = some op) :
    ∃ n' o', Plc (C.kd t) (C.sn t) n' o' /\ ((execV t v (C.bs t n + o) r op).th t).pc = ((C.bs t n' + o' : Nat) : Int) /\ SameM v (execV t v (C.bs t n + o) r op) t /\
      (v.mem 16 % 2 = 0 -> (C.bs t (C.sn t) - (C.bs t n' + o')) + pR (C.kd t) (C.sn t) n' o' ((execV t v (C.bs t n + o) r op).th t).regs (v.mem 16) < (C.bs t (C.sn t) - (C.bs t n + o)) + pR (C.kd t) (C.sn t) n o r (v.mem 16)) := by
  have K := H.ok.k t ht
  have hx := K.nx
  have hN3 := H.ok.N3
  have hTn := plc_le hx (show n + 1 <= C.sn t from hn)
  rw [hx] at hTn
  have p0 : ∀ o r, pR (C.kd t) (C.sn t) n o r (v.mem 16) = penR (C.kd t n) o r (v.mem 16) := fun o r => if_pos hn
  -- within the piece
  have go : ∀ (r' : Nat -> Int), (execV t v (C.bs t n + o) r op).th t = ⟨((C.bs t n + o + 1 : Nat) : Int), r', 0⟩ -> SameM v (execV t v (C.bs t n + o) r op) t -> o + 1 < sgLen (C.kd t n) -> penR (C.kd t n) (o + 1) r' (v.mem 16) <= penR (C.kd t n) o r (v.mem 16) -> ∃ n' o', Plc (C.kd t) (C.sn t) n' o' /\ ((execV t v (C.bs t n + o) r op).th t).pc = ((C.bs t n' + o' : Nat) : Int) /\ SameM v (execV t v (C.bs t n + o) r op) t /\
      (v.mem 16 % 2 = 0 -> (C.bs t (C.sn t) - (C.bs t n' + o')) + pR (C.kd t) (C.sn t) n' o' ((execV t v (C.bs t n + o) r op).th t).regs (v.mem 16) < (C.bs t (C.sn t) - (C.bs t n + o)) + pR (C.kd t) (C.sn t) n o r (v.mem 16)) := fun r' e hs h1 h2 => by
    refine ⟨n, o + 1, .inl ⟨hn, h1⟩, by rw [e]; rfl, hs, fun _ => ?_⟩
    rw [e, p0, p0]
    dsimp only
    omega
  -- at its end
  have nx : ∀ (r' : Nat -> Int), (execV t v (C.bs t n + o) r op).th t = ⟨((C.bs t n + o + 1 : Nat) : Int), r', 0⟩ -> SameM v (execV t v (C.bs t n + o) r op) t -> o + 1 = sgLen (C.kd t n) -> (n + 1 < C.sn t -> penR (C.kd t (n + 1)) 0 r' (v.mem 16) <= penR (C.kd t n) o r (v.mem 16)) -> ∃ n' o', Plc (C.kd t) (C.sn t) n' o' /\ ((execV t v (C.bs t n + o) r op).th t).pc = ((C.bs t n' + o' : Nat) : Int) /\ SameM v (execV t v (C.bs t n + o) r op) t /\
      (v.mem 16 % 2 = 0 -> (C.bs t (C.sn t) - (C.bs t n' + o')) + pR (C.kd t) (C.sn t) n' o' ((execV t v (C.bs t n + o) r op).th t).regs (v.mem 16) < (C.bs t (C.sn t) - (C.bs t n + o)) + pR (C.kd t) (C.sn t) n o r (v.mem 16)) := fun r' e hs h1 h2 => by
    have e2 : C.bs t (n + 1) = C.bs t n + o + 1 := by rw [hx, <- h1]; rfl
    refine ⟨n + 1, 0, ?_, by rw [e, Nat.add_zero, e2], hs, fun _ => ?_⟩
    · rcases Nat.lt_or_ge (n + 1) (C.sn t) with d | d
      · exact .inl ⟨d, sgLen_pos _⟩
      · exact .inr ⟨by omega, rfl⟩
    · rw [e, Nat.add_zero, e2, p0]
      dsimp only
      have h3 : pR (C.kd t) (C.sn t) (n + 1) 0 r' (v.mem 16) <= penR (C.kd t n) o r (v.mem 16) := by
        unfold pR
        split
        · rename_i d; exact h2 d
        · omega
      omega
  have mv : ∀ (th : Th) (l : List Evt), SameM v (v.mv t th (v.bf t) v.mem l) t := fun th l => ⟨by show upd v.bf t _ t = _; rw [upd_same], rfl⟩
  have th : ∀ (x : Th) (b : List Ent) (m : Nat -> Int) (l : List Evt), (v.mv t x b m l).th t = x := fun x b m l => by show upd v.th t x t = x; rw [upd_same]
  have see : ∀ {m cur}, SRd C.N (g.at_ v t) (v.bf t) m cur -> ∀ x, seeV (v.bf t) v.mem x = v.mem x := fun q x => by rw [q.b]; exact seeV_nil _ _
  generalize hkd : C.kd t n = k at *
  cases k with
  | wh => cases hW
  | wp i => cases hW
  | wt => cases hW
  | rh =>
    obtain ⟨k1, k2, k3⟩ := K.rh n hn hkd
    match o, ho, hA, hop with
    | 0, _, hA, hop => obtain rfl : _ = op := Option.some.inj hop; exact go r (th _ _ _ _) (mv _ _) (by decide) (Nat.le_refl _)
    | 1, _, hA, hop =>
      obtain rfl : _ = op := Option.some.inj hop
      refine go _ (th _ _ _ _) (mv _ _) (by decide) ?_
      simp only [sgA] at hA
      show (if updR r 4 (seeV (v.bf t) v.mem 16) 4 = v.mem 16 then 0 else 500) <= 0
      rw [updR_at, see hA.1, if_pos rfl]; exact Nat.le_refl _
    | 2, _, hA, hop => obtain rfl : _ = op := Option.some.inj hop; exact go _ (th _ _ _ _) (mv _ _) (by decide) (Nat.le_refl _)
    | 3, _, hA, hop => obtain rfl : _ = op := Option.some.inj hop; exact go _ (th _ _ _ _) (mv _ _) (by decide) (Nat.le_refl _)
    | 4, _, hA, hop =>
      obtain rfl : _ = op := Option.some.inj hop
      have h6 : r 6 = r 4 % 2 := by simp only [sgA] at hA; exact hA.2.2
      by_cases hz : r 6 = 0
      · refine nx r ?_ (mv _ _) rfl (fun _ => ?_)
        · refine (th _ _ _ _).trans ?_
          rw [if_pos hz]
        · rw [k2]; exact Nat.le_refl _
      · refine ⟨n, 1, .inl ⟨hn, by rw [hkd]; decide⟩, ?_, mv _ _, fun hev => ?_⟩
        · refine (congrArg Th.pc (th _ _ _ _)).trans ?_
          rw [if_neg hz]
        · have e1 : ((execV t v (C.bs t n + 4) r (.some 6 (C.bs t n + 1))).th t).regs = r := congrArg Th.regs (th _ _ _ _)
          rw [e1, p0, p0]
          have e2 : penR .rh 4 r (v.mem 16) = 500 := if_neg (fun q => by rw [q] at h6; omega)
          have e3 : penR .rh 1 r (v.mem 16) = 0 := rfl
          rw [e2, e3]
          omega
    | o + 5, ho, _, _ => exact absurd ho (by show ¬ o + 5 < 5; omega)
  | rl i =>
    obtain ⟨hi, k1, k3, k2⟩ := K.rl n i hn hkd
    match o, ho, hA, hop with
    | 0, _, hA, hop =>
      obtain rfl : _ = op := Option.some.inj hop
      refine nx _ (th _ _ _ _) (mv _ _) rfl (fun _ => ?_)
      have e4 : ∀ x, updR r i x 4 = r 4 := fun x => updR_ot _ _ _ _ (by omega)
      rw [k2]
      split
      · show (if updR r i _ 4 = v.mem 16 then 0 else 500) <= (if r 4 = v.mem 16 then 0 else 500)
        rw [e4]; exact Nat.le_refl _
      · show (if updR r i _ 4 = v.mem 16 then 0 else 500) <= (if r 4 = v.mem 16 then 0 else 500)
        rw [e4]; exact Nat.le_refl _
    | o + 1, ho, _, _ => exact absurd ho (by show ¬ o + 1 < 1; omega)
  | rt =>
    obtain ⟨k1, k2, k3, k4, k5, k6⟩ := K.rt n hn hkd
    match o, ho, hA, hop with
    | 0, _, hA, hop =>
      obtain rfl : _ = op := Option.some.inj hop
      refine go _ (th _ _ _ _) (mv _ _) (by decide) ?_
      simp only [sgA] at hA
      show (if updR r 5 (seeV (v.bf t) v.mem 16) 4 = updR r 5 (seeV (v.bf t) v.mem 16) 5 then 0 else 500) <= (if r 4 = v.mem 16 then 0 else 500)
      rw [updR_at, updR_ot _ _ _ _ (by decide), see hA.1]; exact Nat.le_refl _
    | 1, _, hA, hop =>
      obtain rfl : _ = op := Option.some.inj hop
      refine go _ (th _ _ _ _) (mv _ _) (by decide) ?_
      show (if updR r 6 (if r 4 = r 5 then 1 else 0) 6 = 0 then 500 else 0) <= (if r 4 = r 5 then 0 else 500)
      rw [updR_at]
      by_cases e : r 4 = r 5
      · rw [if_pos e, if_pos e]; decide
      · rw [if_neg e, if_neg e]; decide
    | 2, _, hA, hop =>
      obtain rfl : _ = op := Option.some.inj hop
      by_cases hz : r 6 = 0
      · refine ⟨C.gn t n, 1, .inl ⟨k4, by rw [k5]; decide⟩, ?_, mv _ _, fun hev => ?_⟩
        · refine (congrArg Th.pc (th _ _ _ _)).trans ?_
          rw [if_pos hz]
        · have e1 : ((execV t v (C.bs t n + 2) r (.zero 6 (C.bs t (C.gn t n) + 1))).th t).regs = r := congrArg Th.regs (th _ _ _ _)
          rw [e1, p0]
          have e2 : penR .rt 2 r (v.mem 16) = 500 := if_pos hz
          have e3 : pR (C.kd t) (C.sn t) (C.gn t n) 1 r (v.mem 16) = 0 := by unfold pR; rw [if_pos k4, k5]; rfl
          rw [e2, e3]
          omega
      · refine go r ?_ (mv _ _) (by decide) (Nat.zero_le _)
        refine (th _ _ _ _).trans ?_
        rw [if_neg hz]
    | 3, _, hA, hop => obtain rfl : _ = op := Option.some.inj hop; exact go _ (th _ _ _ _) (mv _ _) (by decide) (Nat.le_refl _)
    | 4, _, hA, hop =>
      obtain rfl : _ = op := Option.some.inj hop
      refine nx r (th _ _ _ _) (mv _ _) rfl (fun _ => ?_)
      rw [k2]; exact Nat.le_refl _
    | o + 5, ho, _, _ => exact absurd ho (by show ¬ o + 5 < 5; omega)
  | ro i =>
    obtain ⟨hi, k1⟩ := K.ro n i hn hkd
    match o, ho, hA, hop with
    | 0, _, hA, hop =>
      obtain rfl : _ = op := Option.some.inj hop
      refine nx r (th _ _ _ _) (mv _ _) rfl (fun hlt => ?_)
      rcases k1 with ⟨_, _, _, q⟩ | ⟨_, _, ⟨q, _⟩ | ⟨_, q, _⟩⟩
      · rw [q]; exact Nat.le_refl _
      · omega
      · rw [q]; exact Nat.le_refl _
    | o + 1, ho, _, _ => exact absurd ho (by show ¬ o + 1 < 1; omega)
end
end Go.Proofs.YtmhfpjnkjlhbpaaGreatDoor
