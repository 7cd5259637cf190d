/- once (plain): the code of a thread that enters what is done once, and does it if it is told so; what holds whatever the turns. -/
import Derived.Test.YtmhfpjnkjlhbpaaGreatDoorQa29
namespace Go.Proofs.YtmhfpjnkjlhbpaaGreatDoor
open Go.ChangeShapes Go.WideShapes Go.ChangeAt Go.RowKit Go.Deep
set_option linter.unusedVariables false
set_option maxRecDepth 100000
set_option linter.unusedSimpArgs false

/-! ### counting marks -/
def isM (k : Int) (x : Evt) : Bool := x.kind == 7 && x.k == k
def isMV (k u : Int) (x : Evt) : Bool := x.kind == 7 && x.k == k && x.value == u
def cntE (f : Evt → Bool) (l : List Evt) : Nat := (l.filter f).length
theorem cntE_snoc (f : Evt → Bool) (l : List Evt) (x : Evt) : cntE f (l ++ [x]) = cntE f l + (if f x = true then 1 else 0) := by
  unfold cntE
  rw [List.filter_append, List.length_append]
  cases h : f x <;> simp [List.filter_cons, h]
theorem cntE_quiet {f : Evt → Bool} {l m : List Evt} (h : ∀ x ∈ m, f x = false) : cntE f (l ++ m) = cntE f l := by
  unfold cntE
  have e : m.filter f = [] := List.filter_eq_nil_iff.2 (fun x hx => by rw [h x hx]; decide)
  rw [List.filter_append, e, List.append_nil]
def nuE (x : Evt) : Prop := x.kind ≠ 7
theorem isM_no {k : Int} (hk : k ≠ 0) {x : Evt} (h : nuE x) : isM k x = false := by
  unfold isM
  unfold nuE at h
  simp [h]
theorem isMV_no {k u : Int} (hk : k ≠ 0) {x : Evt} (h : nuE x) : isMV k u x = false := by
  unfold isMV
  unfold nuE at h
  simp [h]
theorem nu_kind {x : Evt} (h : x.kind ≠ 7) : nuE x := h

/-! ### the code of a round, placed at q -/
def onceL (t q : Nat) : List Op := [.mark 0, .load 4 17, .set 5 ((t : Int) + 1), .same 6 4 5, .zero 6 (q + 7), .set 7 1, .jump (q + 24), .load 4 16, .set 6 2, .same 6 4 6, .some 6 (q + 23), .set 4 0, .set 6 1, .cas 4 6 16, .zero 4 (q + 20), .set 6 1, .same 6 4 6, .zero 6 (q + 7), .wait 4 16, .jump (q + 7), .store 5 17, .set 7 5, .jump (q + 24), .set 7 0, .mark 1, .zero 7 (q + 41), .mark 2, .load 4 17, .set 5 ((t : Int) + 1), .same 6 4 5, .some 6 (q + 33), .set 7 2, .jump (q + 40), .set 4 0, .store 4 17, .set 4 2, .swap 4 16, .set 4 4294967295, .wake 4 16, .set 7 0, .mark 3]
theorem onceL_len (t q : Nat) : (onceL t q).length = 41 := rfl
inductive Ph
  | free | busy (u : Nat) | over
def S1 (m : Int) (t : Nat) (b : List Ent) : Prop := (b = [(17, (t : Int) + 1)] ∧ m = 0) ∨ (b = [] ∧ m = (t : Int) + 1)
def S2 (m : Int) (t : Nat) (b : List Ent) : Prop := (b = [(17, (t : Int) + 1), (17, 0)] ∧ m = 0) ∨ (b = [(17, 0)] ∧ m = (t : Int) + 1) ∨ (b = [] ∧ m = 0)
def oA (g : Ph) (m : Int) (e5 e2 : Nat) (t : Nat) (r : Nat → Int) (b : List Ent) : Nat → Prop
  | 0 => g ≠ .busy t ∧ b = []
  | 1 => g ≠ .busy t ∧ b = []
  | 2 => g ≠ .busy t ∧ b = [] ∧ r 4 ≠ ((t : Int) + 1)
  | 3 => g ≠ .busy t ∧ b = [] ∧ r 4 ≠ ((t : Int) + 1) ∧ r 5 = ((t : Int) + 1)
  | 4 => g ≠ .busy t ∧ b = [] ∧ r 6 = 0 ∧ r 5 = ((t : Int) + 1)
  | 7 => g ≠ .busy t ∧ b = [] ∧ r 5 = ((t : Int) + 1)
  | 8 => g ≠ .busy t ∧ b = [] ∧ r 5 = ((t : Int) + 1) ∧ (r 4 = 2 → e2 = 1)
  | 9 => g ≠ .busy t ∧ b = [] ∧ r 5 = ((t : Int) + 1) ∧ r 6 = 2 ∧ (r 4 = 2 → e2 = 1)
  | 10 => g ≠ .busy t ∧ b = [] ∧ r 5 = ((t : Int) + 1) ∧ (r 6 ≠ 0 → e2 = 1)
  | 11 => g ≠ .busy t ∧ b = [] ∧ r 5 = ((t : Int) + 1)
  | 12 => g ≠ .busy t ∧ b = [] ∧ r 5 = ((t : Int) + 1) ∧ r 4 = 0
  | 13 => g ≠ .busy t ∧ b = [] ∧ r 5 = ((t : Int) + 1) ∧ r 4 = 0 ∧ r 6 = 1
  | 14 => (g ≠ .busy t ∧ b = [] ∧ r 4 ≠ 0 ∧ r 5 = ((t : Int) + 1)) ∨ (g = .busy t ∧ b = [] ∧ r 4 = 0 ∧ r 5 = ((t : Int) + 1) ∧ m = 0 ∧ e5 = 0 ∧ e2 = 0)
  | 15 => g ≠ .busy t ∧ b = [] ∧ r 5 = ((t : Int) + 1)
  | 16 => g ≠ .busy t ∧ b = [] ∧ r 5 = ((t : Int) + 1)
  | 17 => g ≠ .busy t ∧ b = [] ∧ r 5 = ((t : Int) + 1)
  | 18 => g ≠ .busy t ∧ b = [] ∧ r 5 = ((t : Int) + 1)
  | 19 => g ≠ .busy t ∧ b = [] ∧ r 5 = ((t : Int) + 1)
  | 20 => g = .busy t ∧ b = [] ∧ r 5 = ((t : Int) + 1) ∧ m = 0 ∧ e5 = 0 ∧ e2 = 0
  | 21 => g = .busy t ∧ S1 m t b ∧ e5 = 0 ∧ e2 = 0
  | 22 => g = .busy t ∧ S1 m t b ∧ e5 = 0 ∧ e2 = 0 ∧ r 7 = 5
  | 23 => g ≠ .busy t ∧ b = [] ∧ e2 = 1
  | 24 => (g ≠ .busy t ∧ b = [] ∧ e2 = 1 ∧ r 7 = 0) ∨ (g = .busy t ∧ S1 m t b ∧ e5 = 0 ∧ e2 = 0 ∧ r 7 = 5)
  | 25 => (g ≠ .busy t ∧ b = [] ∧ r 7 = 0) ∨ (g = .busy t ∧ S1 m t b ∧ e5 = 1 ∧ e2 = 0 ∧ r 7 = 5)
  | 26 => g = .busy t ∧ S1 m t b ∧ e5 = 1 ∧ e2 = 0
  | 27 => g = .busy t ∧ S1 m t b ∧ e5 = 1 ∧ e2 = 1
  | 28 => g = .busy t ∧ S1 m t b ∧ e5 = 1 ∧ e2 = 1 ∧ r 4 = ((t : Int) + 1)
  | 29 => g = .busy t ∧ S1 m t b ∧ e5 = 1 ∧ e2 = 1 ∧ r 4 = ((t : Int) + 1) ∧ r 5 = ((t : Int) + 1)
  | 30 => g = .busy t ∧ S1 m t b ∧ e5 = 1 ∧ e2 = 1 ∧ r 6 = 1
  | 33 => g = .busy t ∧ S1 m t b ∧ e5 = 1 ∧ e2 = 1
  | 34 => g = .busy t ∧ S1 m t b ∧ e5 = 1 ∧ e2 = 1 ∧ r 4 = 0
  | 35 => g = .busy t ∧ S2 m t b ∧ e5 = 1 ∧ e2 = 1
  | 36 => g = .busy t ∧ S2 m t b ∧ e5 = 1 ∧ e2 = 1 ∧ r 4 = 2
  | 37 => g ≠ .busy t ∧ b = []
  | 38 => g ≠ .busy t ∧ b = []
  | 39 => g ≠ .busy t ∧ b = []
  | 40 => g ≠ .busy t ∧ b = [] ∧ r 7 = 0
  | _ => False
def OLoc (g : Ph) (m : Int) (e5 e2 : Nat) (t rd : Nat) (th : Th) (b : List Ent) : Prop :=
  ∃ n o, th.pc = ((n * 41 + o : Nat) : Int) ∧ ((n < rd ∧ o < 41 ∧ (th.st = 0 ∨ th.st = 1) ∧ oA g m e5 e2 t th.regs b o) ∨ (n = rd ∧ o = 0 ∧ (th.st = 0 ∨ th.st = 2) ∧ g ≠ .busy t ∧ b = []))
def okE (l : List Evt) : Prop := ∀ (i : Nat) (x : Evt), l[i]? = some x → x.kind = 7 → (0 ≤ x.who ∧ x.who < 8) ∧ (x.k = 3 → x.value = 0) ∧ (x.k = 1 → x.value ≠ 5 → x.value = 0 ∧ ∃ (j : Nat) (y : Evt), j < i ∧ l[j]? = some y ∧ y.kind = 7 ∧ y.k = 2)
theorem okE_snoc {l : List Evt} (h : okE l) (x : Evt) (hx : x.kind = 7 → (0 ≤ x.who ∧ x.who < 8) ∧ (x.k = 3 → x.value = 0) ∧ (x.k = 1 → x.value ≠ 5 → x.value = 0 ∧ 0 < cntE (isM 2) l)) : okE (l ++ [x]) := fun i y hy hk => by
  rcases Nat.lt_or_ge i l.length with c | c
  · rw [List.getElem?_append_left c] at hy
    refine ⟨(h i y hy hk).1, (h i y hy hk).2.1, fun h1 h2 => ?_⟩
    obtain ⟨q0, j, z, q1, q2, q3⟩ := (h i y hy hk).2.2 h1 h2
    exact ⟨q0, j, z, q1, by rw [List.getElem?_append_left (by omega)]; exact q2, q3⟩
  · rw [List.getElem?_append_right c] at hy
    have hi : i - l.length = 0 := by
      have := (List.getElem?_eq_some_iff.1 hy).1
      simpa using this
    rw [hi] at hy
    obtain rfl : x = y := by simpa using hy
    refine ⟨(hx hk).1, (hx hk).2.1, fun h1 h2 => ?_⟩
    obtain ⟨q0, q1⟩ := (hx hk).2.2 h1 h2
    refine ⟨q0, ?_⟩
    unfold cntE at q1
    obtain ⟨z, hz⟩ := List.exists_mem_of_length_pos q1
    obtain ⟨hz1, hz2⟩ := List.mem_filter.1 hz
    obtain ⟨j, hj, e⟩ := List.getElem_of_mem hz1
    unfold isM at hz2
    simp only [Bool.and_eq_true, beq_iff_eq] at hz2
    exact ⟨j, z, by omega, by rw [List.getElem?_append_left hj, List.getElem?_eq_getElem hj, e], hz2.1, hz2.2⟩
theorem okE_quiet {l m : List Evt} (h : okE l) (hm : ∀ x ∈ m, nuE x) : okE (l ++ m) := by
  induction m generalizing l with
  | nil => rw [List.append_nil]; exact h
  | cons x m ih =>
    rw [show l ++ x :: m = (l ++ [x]) ++ m by simp]
    exact ih (okE_snoc h x (fun q => absurd q (hm x (by simp)))) (fun y hy => hm y (by simp [hy]))
def oSh (nt : Nat) (m : Nat → Int) (e5 e2 : Nat) : Ph → Prop
  | .free => m 16 = 0 ∧ m 17 = 0 ∧ e5 = 0 ∧ e2 = 0
  | .busy u => m 16 = 1 ∧ u < nt
  | .over => m 16 = 2 ∧ m 17 = 0 ∧ e5 ≤ 1 ∧ e2 = 1
structure OnceI (nt : Nat) (rd : Nat → Nat) (v : Vw) (g : Ph) (e5 e2 : Nat) : Prop where
  n8 : nt ≤ 8
  sh : oSh nt v.mem e5 e2 g
  loc : ∀ t, t < nt → OLoc g (v.mem 17) e5 e2 t (rd t) (v.th t) (v.bf t)
  h5 : cntE (isMV 1 5) v.evs = e5
  h2 : cntE (isM 2) v.evs = e2
  ev : okE v.evs
section
variable {nt : Nat} {rd : Nat → Nat} {v : Vw} {g : Ph} {e5 e2 t : Nat}
theorem oA_other {g g' : Ph} {m m' : Int} {e5 e2 e5' e2' : Nat} {r : Nat → Int} {b : List Ent} {o : Nat} (h : oA g m e5 e2 t r b o) (hg : g ≠ .busy t) (hg' : g' ≠ .busy t) (he : e2 = 1 → e2' = 1) : oA g' m' e5' e2' t r b o := by
  unfold oA at h ⊢
  split at h
  all_goals first
    | exact h.elim
    | exact ⟨hg', h.2⟩
    | exact absurd h.1 hg
    | exact ⟨hg', h.2.1, h.2.2.1, fun q => he (h.2.2.2 q)⟩
    | exact ⟨hg', h.2.1, h.2.2.1, h.2.2.2.1, fun q => he (h.2.2.2.2 q)⟩
    | exact ⟨hg', h.2.1, he h.2.2⟩
    | exact .inl (h.elim (fun q => ⟨hg', q.2⟩) (fun q => absurd q.1 hg))
    | exact .inl (h.elim (fun q => ⟨hg', q.2.1, he q.2.2.1, q.2.2.2⟩) (fun q => absurd q.1 hg))
theorem OLoc.other {g g' : Ph} {m m' : Int} {e5 e2 e5' e2' rd : Nat} {th : Th} {b : List Ent} (h : OLoc g m e5 e2 t rd th b) (hg : g ≠ .busy t) (hg' : g' ≠ .busy t) (he : e2 = 1 → e2' = 1) : OLoc g' m' e5' e2' t rd th b := by
  obtain ⟨n, o, h1, h2⟩ := h
  refine ⟨n, o, h1, h2.imp (fun q => ⟨q.1, q.2.1, q.2.2.1, oA_other q.2.2.2 hg hg' he⟩) (fun q => ⟨q.1, q.2.1, q.2.2.1, hg', q.2.2.2.2⟩)⟩
theorem OnceI.quiet (H : OnceI nt rd v g e5 e2) (ht : t < nt) {th : Th} {b : List Ent} {l : List Evt} (hl : ∀ x ∈ l, nuE x) (hloc : OLoc g (v.mem 17) e5 e2 t (rd t) th b) : OnceI nt rd (v.mv t th b v.mem l) g e5 e2 := by
  refine ⟨H.n8, H.sh, fun u hu => ?_, ?_, ?_, okE_quiet H.ev hl⟩
  · by_cases c : u = t
    · subst c
      show OLoc g (v.mem 17) e5 e2 u (rd u) (upd v.th u th u) (upd v.bf u b u)
      rw [upd_same, upd_same]; exact hloc
    · show OLoc g (v.mem 17) e5 e2 u (rd u) (upd v.th t th u) (upd v.bf t b u)
      rw [upd_ne _ _ _ c, upd_ne _ _ _ c]; exact H.loc u hu
  · exact (cntE_quiet (fun x hx => isMV_no (by decide) (hl x hx))).trans H.h5
  · exact (cntE_quiet (fun x hx => isM_no (by decide) (hl x hx))).trans H.h2
theorem OnceI.turn (H : OnceI nt rd v g e5 e2) (ht : t < nt) {th : Th} {b : List Ent} {mem : Nat → Int} {l : List Evt} {g' : Ph} {e5' e2' : Nat} (hg : ∀ u, u ≠ t → g ≠ .busy u ∧ g' ≠ .busy u) (he : e2 = 1 → e2' = 1)
    (sh : oSh nt mem e5' e2' g')
    (hloc : OLoc g' (mem 17) e5' e2' t (rd t) th b) (h5 : cntE (isMV 1 5) (v.evs ++ l) = e5') (h2 : cntE (isM 2) (v.evs ++ l) = e2') (ev : okE (v.evs ++ l)) : OnceI nt rd (v.mv t th b mem l) g' e5' e2' := by
  refine ⟨H.n8, sh, fun u hu => ?_, h5, h2, ev⟩
  by_cases c : u = t
  · subst c
    show OLoc g' (mem 17) e5' e2' u (rd u) (upd v.th u th u) (upd v.bf u b u)
    rw [upd_same, upd_same]; exact hloc
  · show OLoc g' (mem 17) e5' e2' u (rd u) (upd v.th t th u) (upd v.bf t b u)
    rw [upd_ne _ _ _ c, upd_ne _ _ _ c]; exact (H.loc u hu).other (hg u c).1 (hg u c).2 he
theorem OnceI.slp (H : OnceI nt rd v g e5 e2) (l : List Slp) : OnceI nt rd { v with slp := l } g e5 e2 := ⟨H.n8, H.sh, H.loc, H.h5, H.h2, H.ev⟩
theorem OLoc.run {m : Int} {rd : Nat} {th : Th} {b : List Ent} (h : OLoc g m e5 e2 t rd th b) : OLoc g m e5 e2 t rd { th with st := 0 } b := by
  obtain ⟨n, o, h1, h2⟩ := h
  exact ⟨n, o, h1, h2.imp (fun q => ⟨q.1, q.2.1, .inl rfl, q.2.2.2⟩) (fun q => ⟨q.1, q.2.1, .inl rfl, q.2.2.2⟩)⟩
theorem OnceI.run (H : OnceI nt rd v g e5 e2) (ws : List Int) : OnceI nt rd { v with th := runV ws v.th } g e5 e2 := by
  refine ⟨H.n8, H.sh, fun u hu => ?_, H.h5, H.h2, H.ev⟩
  show OLoc g (v.mem 17) e5 e2 u (rd u) (if (u : Int) ∈ ws then { v.th u with st := 0 } else v.th u) (v.bf u)
  split
  · exact (H.loc u hu).run
  · exact H.loc u hu
theorem OLoc.next {m : Int} {rd n : Nat} {th : Th} {b : List Ent} (hpc : th.pc = ((n * 41 + 41 : Nat) : Int)) (hn : n < rd) (hst : th.st = 0) (hg : g ≠ .busy t) (hb : b = []) : OLoc g m e5 e2 t rd th b := by
  refine ⟨n + 1, 0, by rw [hpc]; omega, ?_⟩
  rcases Nat.lt_or_ge (n + 1) rd with c | c
  · exact .inl ⟨c, by decide, .inl hst, hg, hb⟩
  · exact .inr ⟨by omega, rfl, .inl hst, hg, hb⟩
theorem OLoc.own17 {m : Int} {u rd : Nat} {th : Th} {b : List Ent} (h : OLoc (.busy u) m e5 e2 u rd th b) : (m = 0 ∨ m = (u : Int) + 1) ∧ ∀ x l, b = x :: l → (S1 m u b ∨ S2 m u b) := by
  obtain ⟨n, o, _, h | h⟩ := h
  · have hA := h.2.2.2
    have h1 : S1 m u b → (m = 0 ∨ m = (u : Int) + 1) ∧ ∀ x l, b = x :: l → (S1 m u b ∨ S2 m u b) := fun q => ⟨q.elim (fun q => .inl q.2) (fun q => .inr q.2), fun _ _ _ => .inl q⟩
    have h2 : S2 m u b → (m = 0 ∨ m = (u : Int) + 1) ∧ ∀ x l, b = x :: l → (S1 m u b ∨ S2 m u b) := fun q => ⟨q.elim (fun q => .inl q.2) (fun q => q.elim (fun q => .inr q.2) (fun q => .inl q.2)), fun _ _ _ => .inr q⟩
    have h3 : m = 0 → b = [] → (m = 0 ∨ m = (u : Int) + 1) ∧ ∀ x l, b = x :: l → (S1 m u b ∨ S2 m u b) := fun q1 q2 => ⟨.inl q1, fun x l e => by rw [q2] at e; cases e⟩
    have no : ∀ {p : Prop}, (Ph.busy u ≠ Ph.busy u) → p := fun q => absurd rfl q
    unfold oA at hA
    split at hA
    all_goals first
      | exact hA.elim
      | exact no hA.1
      | exact h1 hA.2.1
      | exact h2 hA.2.1
      | exact h3 hA.2.2.2.1 hA.2.1
      | exact hA.elim (fun q => no q.1) (fun q => h3 q.2.2.2.2.1 q.2.1)
      | exact hA.elim (fun q => no q.1) (fun q => h1 q.2.1)
  · exact absurd rfl h.2.2.2.1
theorem OnceI.own17 {u : Nat} (H : OnceI nt rd v (.busy u) e5 e2) : v.mem 17 = 0 ∨ v.mem 17 = (u : Int) + 1 := ((H.loc u H.sh.2).own17).1
theorem OnceI.who (H : OnceI nt rd v g e5 e2) (ht : t < nt) : (0 : Int) ≤ (t : Int) ∧ (t : Int) < 8 := by have := H.n8; omega
theorem updR_at (r : Nat → Int) (a : Nat) (x : Int) : updR r a x a = x := if_pos rfl
theorem updR_ot (r : Nat → Int) (a : Nat) (x : Int) (k : Nat) (h : k ≠ a) : updR r a x k = r k := if_neg h
theorem OnceI.not17 (H : OnceI nt rd v g e5 e2) (ht : t < nt) (hg : g ≠ .busy t) : v.mem 17 ≠ (t : Int) + 1 := by
  cases g with
  | free => have := H.sh.2.1; omega
  | over => have := H.sh.2.1; omega
  | busy u =>
    have hu : u ≠ t := fun e => hg (by rw [e])
    rcases H.own17 with e | e
    · omega
    · omega
theorem OnceI.two (H : OnceI nt rd v g e5 e2) (h2 : v.mem 16 = 2) : e2 = 1 := by
  cases g with
  | free => have := H.sh.1; omega
  | busy u => have := H.sh.1; omega
  | over => exact H.sh.2.2.2
theorem OnceI.zero (H : OnceI nt rd v g e5 e2) (h2 : v.mem 16 = 0) : g = .free := by
  cases g with
  | free => rfl
  | busy u => have := H.sh.1; omega
  | over => have := H.sh.1; omega
theorem OnceI.note (H : OnceI nt rd v g e5 e2) (ht : t < nt) {th : Th} {b : List Ent} {l : List Evt} (hloc : OLoc g (v.mem 17) e5 e2 t (rd t) th b) (h5 : cntE (isMV 1 5) (v.evs ++ l) = e5) (h2 : cntE (isM 2) (v.evs ++ l) = e2) (ev : okE (v.evs ++ l)) : OnceI nt rd (v.mv t th b v.mem l) g e5 e2 := by
  refine ⟨H.n8, H.sh, fun u hu => ?_, h5, h2, ev⟩
  by_cases c : u = t
  · subst c
    show OLoc g (v.mem 17) e5 e2 u (rd u) (upd v.th u th u) (upd v.bf u b u)
    rw [upd_same, upd_same]; exact hloc
  · show OLoc g (v.mem 17) e5 e2 u (rd u) (upd v.th t th u) (upd v.bf t b u)
    rw [upd_ne _ _ _ c, upd_ne _ _ _ c]; exact H.loc u hu
theorem hA25 {r : Nat → Int} {b : List Ent} {m : Int} (hA : oA g m e5 e2 t r b 25) (hz : r 7 = 0) : g ≠ .busy t ∧ b = [] := by
  simp only [oA] at hA
  rcases hA with q | q
  · exact ⟨q.1, q.2.1⟩
  · have := q.2.2.2.2; omega
theorem OLoc.bufs {m : Int} {rd : Nat} {th : Th} {b : List Ent} (h : OLoc g m e5 e2 t rd th b) (hg : g ≠ .busy t) : b = [] := by
  obtain ⟨n, o, _, h | h⟩ := h
  · have hA := h.2.2.2
    unfold oA at hA
    split at hA
    all_goals first
      | exact hA.elim
      | exact hA.2.1
      | exact absurd hA.1 hg
      | exact hA.elim (fun q => q.2.1) (fun q => absurd q.1 hg)
      | exact hA.2
  · exact h.2.2.2.2
theorem OLoc.flush {m m' : Int} {rd : Nat} {th : Th} {b b' : List Ent} (h : OLoc g m e5 e2 t rd th b) (hb : b ≠ []) (h1 : S1 m t b → S1 m' t b') (h2 : S2 m t b → S2 m' t b') : OLoc g m' e5 e2 t rd th b' := by
  obtain ⟨n, o, hp, h | h⟩ := h
  · refine ⟨n, o, hp, .inl ⟨h.1, h.2.1, h.2.2.1, ?_⟩⟩
    have hA := h.2.2.2
    unfold oA at hA ⊢
    split at hA
    all_goals first
      | exact hA.elim
      | exact absurd hA.2.1 hb
      | exact ⟨hA.1, h1 hA.2.1, hA.2.2⟩
      | exact ⟨hA.1, h2 hA.2.1, hA.2.2⟩
      | exact absurd hA.2 hb
      | exact hA.elim (fun q => absurd q.2.1 hb) (fun q => absurd q.2.1 hb)
      | exact hA.elim (fun q => absurd q.2.1 hb) (fun q => .inr ⟨q.1, h1 q.2.1, q.2.2⟩)
  · exact absurd h.2.2.2.2 hb
theorem OnceI.flush (H : OnceI nt rd v g e5 e2) (ht : t < nt) (hb : v.bf t ≠ []) : OnceI nt rd (flushV t v) g e5 e2 := by
  have hg : g = .busy t := Classical.byContradiction fun q => hb ((H.loc t ht).bufs q)
  subst hg
  have hs := H.sh
  have hl := H.loc t ht
  have hS := hl.own17.2
  unfold flushV
  cases hc : v.bf t with
  | nil => exact absurd hc hb
  | cons x l =>
    have hS' := hS x l hc
    rw [hc] at hS' hl
    have hx : x.1 = 17 := by
      rcases hS' with (⟨q, _⟩ | ⟨q, _⟩) | (⟨q, _⟩ | ⟨q, _⟩ | ⟨q, _⟩) <;> cases q <;> rfl
    have K : OLoc (.busy t) x.2 e5 e2 t (rd t) (v.th t) l := by
      refine hl.flush (by simp) (fun q => ?_) (fun q => ?_)
      · rcases q with ⟨q, _⟩ | ⟨q, _⟩
        · injection q with q1 q2; rw [q1, q2]; exact .inr ⟨rfl, rfl⟩
        · cases q
      · rcases q with ⟨q, _⟩ | ⟨q, _⟩ | ⟨q, _⟩
        · injection q with q1 q2; rw [q1, q2]; exact .inr (.inl ⟨rfl, rfl⟩)
        · injection q with q1 q2; rw [q1, q2]; exact .inr (.inr ⟨rfl, rfl⟩)
        · cases q
    have e1 : (x.1.toNat) = 17 := by rw [hx]; rfl
    have nu : ∀ y ∈ [(⟨3, (t : Int), 0, x.1, x.2, 0, 0, false⟩ : Evt)], nuE y := fun y hy => nu_kind (by rw [List.mem_singleton.1 hy]; exact (by decide : (3 : Int) ≠ 7))
    refine ⟨H.n8, ?_, fun u hu => ?_, ?_, ?_, okE_quiet H.ev nu⟩
    · show upd v.mem x.1.toNat x.2 16 = 1 ∧ t < nt
      rw [e1, upd_ne _ _ _ (by decide)]; exact hs
    · show OLoc _ (upd v.mem x.1.toNat x.2 17) _ _ _ _ (v.th u) (upd v.bf t l u)
      rw [e1, upd_same]
      by_cases c : u = t
      · subst c; rw [upd_same]; exact K
      · rw [upd_ne _ _ _ c]; exact (H.loc u hu).other (by simp [Ne.symm c]) (by simp [Ne.symm c]) id
    · exact (cntE_quiet (fun y hy => isMV_no (by decide) (nu y hy))).trans H.h5
    · exact (cntE_quiet (fun y hy => isM_no (by decide) (nu y hy))).trans H.h2
theorem see17 {b : List Ent} (m : Nat → Int) (h : S1 (m 17) t b) : seeV b m 17 = (t : Int) + 1 := by
  rcases h with ⟨rfl, _⟩ | ⟨rfl, h⟩
  · rfl
  · exact h
theorem once_0 (H : OnceI nt rd v g e5 e2) (ht : t < nt) {n : Nat} {r : Nat → Int} (hn : n < rd t) (hA : oA g (v.mem 17) e5 e2 t r (v.bf t) 0) : ∃ g' a b, OnceI nt rd (execV t v (n * 41 + 0) r (.mark 0)) g' a b := by
  refine ⟨g, e5, e2, H.note ht ⟨n, 1, rfl, .inl ⟨hn, by decide, .inl rfl, by simp only [oA] at hA ⊢; exact hA⟩⟩ ?_ ?_ ?_⟩
  · rw [cntE_snoc, H.h5]; rfl
  · rw [cntE_snoc, H.h2]; rfl
  · exact okE_snoc H.ev _ (fun _ => ⟨H.who ht, fun q => absurd q (show ((0 : Nat) : Int) ≠ 3 by decide), fun q => absurd q (show ((0 : Nat) : Int) ≠ 1 by decide)⟩)
theorem once_1 (H : OnceI nt rd v g e5 e2) (ht : t < nt) {n : Nat} {r : Nat → Int} (hn : n < rd t) (hA : oA g (v.mem 17) e5 e2 t r (v.bf t) 1) : ∃ g' a b, OnceI nt rd (execV t v (n * 41 + 1) r (.load 4 17)) g' a b := by
  exact ⟨g, e5, e2, H.quiet ht (fun x hx => nu_kind (by rw [List.mem_singleton.1 hx]; exact (by decide : (1 : Int) ≠ 7))) ⟨n, 2, rfl, .inl ⟨hn, by decide, .inl rfl, by simp only [oA] at hA ⊢; obtain ⟨h1, h2⟩ := hA; refine ⟨h1, h2, ?_⟩; show updR r 4 (seeV (v.bf t) v.mem 17) 4 ≠ _; rw [updR_at, h2, seeV_nil]; exact H.not17 ht h1⟩⟩⟩
theorem once_2 (H : OnceI nt rd v g e5 e2) (ht : t < nt) {n : Nat} {r : Nat → Int} (hn : n < rd t) (hA : oA g (v.mem 17) e5 e2 t r (v.bf t) 2) : ∃ g' a b, OnceI nt rd (execV t v (n * 41 + 2) r (.set 5 ((t : Int) + 1))) g' a b := by
  exact ⟨g, e5, e2, H.quiet ht (fun x hx => by cases hx) ⟨n, 3, rfl, .inl ⟨hn, by decide, .inl rfl, by simp only [oA] at hA ⊢; simp_all [updR]⟩⟩⟩
theorem once_3 (H : OnceI nt rd v g e5 e2) (ht : t < nt) {n : Nat} {r : Nat → Int} (hn : n < rd t) (hA : oA g (v.mem 17) e5 e2 t r (v.bf t) 3) : ∃ g' a b, OnceI nt rd (execV t v (n * 41 + 3) r (.same 6 4 5)) g' a b := by
  exact ⟨g, e5, e2, H.quiet ht (fun x hx => by cases hx) ⟨n, 4, rfl, .inl ⟨hn, by decide, .inl rfl, by simp only [oA] at hA ⊢; simp_all [updR]⟩⟩⟩
theorem once_4 (H : OnceI nt rd v g e5 e2) (ht : t < nt) {n : Nat} {r : Nat → Int} (hn : n < rd t) (hA : oA g (v.mem 17) e5 e2 t r (v.bf t) 4) : ∃ g' a b, OnceI nt rd (execV t v (n * 41 + 4) r (.zero 6 (n * 41 + 7))) g' a b := by
  dsimp only [execV]
  by_cases hz : r 6 = 0
  · rw [if_pos hz]
    exact ⟨g, e5, e2, H.quiet ht (fun x hx => by cases hx) ⟨n, 7, rfl, .inl ⟨hn, by decide, .inl rfl, by simp only [oA] at hA ⊢; simp_all [updR]⟩⟩⟩
  · rw [if_neg hz]
    simp only [oA] at hA; simp_all
theorem once_7 (H : OnceI nt rd v g e5 e2) (ht : t < nt) {n : Nat} {r : Nat → Int} (hn : n < rd t) (hA : oA g (v.mem 17) e5 e2 t r (v.bf t) 7) : ∃ g' a b, OnceI nt rd (execV t v (n * 41 + 7) r (.load 4 16)) g' a b := by
  exact ⟨g, e5, e2, H.quiet ht (fun x hx => nu_kind (by rw [List.mem_singleton.1 hx]; exact (by decide : (1 : Int) ≠ 7))) ⟨n, 8, rfl, .inl ⟨hn, by decide, .inl rfl, by simp only [oA] at hA ⊢; obtain ⟨h1, h2, h3⟩ := hA; refine ⟨h1, h2, by rw [updR_ot _ _ _ _ (by decide)]; exact h3, fun q => ?_⟩; rw [updR_at, h2, seeV_nil] at q; exact H.two q⟩⟩⟩
theorem once_8 (H : OnceI nt rd v g e5 e2) (ht : t < nt) {n : Nat} {r : Nat → Int} (hn : n < rd t) (hA : oA g (v.mem 17) e5 e2 t r (v.bf t) 8) : ∃ g' a b, OnceI nt rd (execV t v (n * 41 + 8) r (.set 6 2)) g' a b := by
  exact ⟨g, e5, e2, H.quiet ht (fun x hx => by cases hx) ⟨n, 9, rfl, .inl ⟨hn, by decide, .inl rfl, by simp only [oA] at hA ⊢; simp_all [updR]⟩⟩⟩
theorem once_9 (H : OnceI nt rd v g e5 e2) (ht : t < nt) {n : Nat} {r : Nat → Int} (hn : n < rd t) (hA : oA g (v.mem 17) e5 e2 t r (v.bf t) 9) : ∃ g' a b, OnceI nt rd (execV t v (n * 41 + 9) r (.same 6 4 6)) g' a b := by
  exact ⟨g, e5, e2, H.quiet ht (fun x hx => by cases hx) ⟨n, 10, rfl, .inl ⟨hn, by decide, .inl rfl, by simp only [oA] at hA ⊢; obtain ⟨h1, h2, h3, h4, h5⟩ := hA; refine ⟨h1, h2, by rw [updR_ot _ _ _ _ (by decide)]; exact h3, fun q => ?_⟩; rw [updR_at, h4] at q; exact h5 (Classical.byContradiction fun z => q (if_neg z))⟩⟩⟩
theorem once_10 (H : OnceI nt rd v g e5 e2) (ht : t < nt) {n : Nat} {r : Nat → Int} (hn : n < rd t) (hA : oA g (v.mem 17) e5 e2 t r (v.bf t) 10) : ∃ g' a b, OnceI nt rd (execV t v (n * 41 + 10) r (.some 6 (n * 41 + 23))) g' a b := by
  dsimp only [execV]
  by_cases hz : r 6 = 0
  · rw [if_pos hz]
    exact ⟨g, e5, e2, H.quiet ht (fun x hx => by cases hx) ⟨n, 11, rfl, .inl ⟨hn, by decide, .inl rfl, by simp only [oA] at hA ⊢; simp_all [updR]⟩⟩⟩
  · rw [if_neg hz]
    exact ⟨g, e5, e2, H.quiet ht (fun x hx => by cases hx) ⟨n, 23, rfl, .inl ⟨hn, by decide, .inl rfl, by simp only [oA] at hA ⊢; simp_all [updR]⟩⟩⟩
theorem once_11 (H : OnceI nt rd v g e5 e2) (ht : t < nt) {n : Nat} {r : Nat → Int} (hn : n < rd t) (hA : oA g (v.mem 17) e5 e2 t r (v.bf t) 11) : ∃ g' a b, OnceI nt rd (execV t v (n * 41 + 11) r (.set 4 0)) g' a b := by
  exact ⟨g, e5, e2, H.quiet ht (fun x hx => by cases hx) ⟨n, 12, rfl, .inl ⟨hn, by decide, .inl rfl, by simp only [oA] at hA ⊢; simp_all [updR]⟩⟩⟩
theorem once_12 (H : OnceI nt rd v g e5 e2) (ht : t < nt) {n : Nat} {r : Nat → Int} (hn : n < rd t) (hA : oA g (v.mem 17) e5 e2 t r (v.bf t) 12) : ∃ g' a b, OnceI nt rd (execV t v (n * 41 + 12) r (.set 6 1)) g' a b := by
  exact ⟨g, e5, e2, H.quiet ht (fun x hx => by cases hx) ⟨n, 13, rfl, .inl ⟨hn, by decide, .inl rfl, by simp only [oA] at hA ⊢; simp_all [updR]⟩⟩⟩
theorem once_14 (H : OnceI nt rd v g e5 e2) (ht : t < nt) {n : Nat} {r : Nat → Int} (hn : n < rd t) (hA : oA g (v.mem 17) e5 e2 t r (v.bf t) 14) : ∃ g' a b, OnceI nt rd (execV t v (n * 41 + 14) r (.zero 4 (n * 41 + 20))) g' a b := by
  dsimp only [execV]
  by_cases hz : r 4 = 0
  · rw [if_pos hz]
    exact ⟨g, e5, e2, H.quiet ht (fun x hx => by cases hx) ⟨n, 20, rfl, .inl ⟨hn, by decide, .inl rfl, by simp only [oA] at hA ⊢; simp_all⟩⟩⟩
  · rw [if_neg hz]
    exact ⟨g, e5, e2, H.quiet ht (fun x hx => by cases hx) ⟨n, 15, rfl, .inl ⟨hn, by decide, .inl rfl, by simp only [oA] at hA ⊢; simp_all⟩⟩⟩
theorem once_15 (H : OnceI nt rd v g e5 e2) (ht : t < nt) {n : Nat} {r : Nat → Int} (hn : n < rd t) (hA : oA g (v.mem 17) e5 e2 t r (v.bf t) 15) : ∃ g' a b, OnceI nt rd (execV t v (n * 41 + 15) r (.set 6 1)) g' a b := by
  exact ⟨g, e5, e2, H.quiet ht (fun x hx => by cases hx) ⟨n, 16, rfl, .inl ⟨hn, by decide, .inl rfl, by simp only [oA] at hA ⊢; simp_all [updR]⟩⟩⟩
theorem once_16 (H : OnceI nt rd v g e5 e2) (ht : t < nt) {n : Nat} {r : Nat → Int} (hn : n < rd t) (hA : oA g (v.mem 17) e5 e2 t r (v.bf t) 16) : ∃ g' a b, OnceI nt rd (execV t v (n * 41 + 16) r (.same 6 4 6)) g' a b := by
  exact ⟨g, e5, e2, H.quiet ht (fun x hx => by cases hx) ⟨n, 17, rfl, .inl ⟨hn, by decide, .inl rfl, by simp only [oA] at hA ⊢; exact ⟨hA.1, hA.2.1, by rw [updR_ot _ _ _ _ (by decide)]; exact hA.2.2⟩⟩⟩⟩
theorem once_17 (H : OnceI nt rd v g e5 e2) (ht : t < nt) {n : Nat} {r : Nat → Int} (hn : n < rd t) (hA : oA g (v.mem 17) e5 e2 t r (v.bf t) 17) : ∃ g' a b, OnceI nt rd (execV t v (n * 41 + 17) r (.zero 6 (n * 41 + 7))) g' a b := by
  dsimp only [execV]
  by_cases hz : r 6 = 0
  · rw [if_pos hz]
    exact ⟨g, e5, e2, H.quiet ht (fun x hx => by cases hx) ⟨n, 7, rfl, .inl ⟨hn, by decide, .inl rfl, by simp only [oA] at hA ⊢; simp_all [updR]⟩⟩⟩
  · rw [if_neg hz]
    exact ⟨g, e5, e2, H.quiet ht (fun x hx => by cases hx) ⟨n, 18, rfl, .inl ⟨hn, by decide, .inl rfl, by simp only [oA] at hA ⊢; simp_all [updR]⟩⟩⟩
theorem once_19 (H : OnceI nt rd v g e5 e2) (ht : t < nt) {n : Nat} {r : Nat → Int} (hn : n < rd t) (hA : oA g (v.mem 17) e5 e2 t r (v.bf t) 19) : ∃ g' a b, OnceI nt rd (execV t v (n * 41 + 19) r (.jump (n * 41 + 7))) g' a b := by
  exact ⟨g, e5, e2, H.quiet ht (fun x hx => by cases hx) ⟨n, 7, rfl, .inl ⟨hn, by decide, .inl rfl, by simp only [oA] at hA ⊢; simp_all [updR]⟩⟩⟩
theorem once_21 (H : OnceI nt rd v g e5 e2) (ht : t < nt) {n : Nat} {r : Nat → Int} (hn : n < rd t) (hA : oA g (v.mem 17) e5 e2 t r (v.bf t) 21) : ∃ g' a b, OnceI nt rd (execV t v (n * 41 + 21) r (.set 7 5)) g' a b := by
  exact ⟨g, e5, e2, H.quiet ht (fun x hx => by cases hx) ⟨n, 22, rfl, .inl ⟨hn, by decide, .inl rfl, by simp only [oA] at hA ⊢; simp_all [updR]⟩⟩⟩
theorem once_22 (H : OnceI nt rd v g e5 e2) (ht : t < nt) {n : Nat} {r : Nat → Int} (hn : n < rd t) (hA : oA g (v.mem 17) e5 e2 t r (v.bf t) 22) : ∃ g' a b, OnceI nt rd (execV t v (n * 41 + 22) r (.jump (n * 41 + 24))) g' a b := by
  exact ⟨g, e5, e2, H.quiet ht (fun x hx => by cases hx) ⟨n, 24, rfl, .inl ⟨hn, by decide, .inl rfl, by simp only [oA] at hA ⊢; simp_all [updR]⟩⟩⟩
theorem once_23 (H : OnceI nt rd v g e5 e2) (ht : t < nt) {n : Nat} {r : Nat → Int} (hn : n < rd t) (hA : oA g (v.mem 17) e5 e2 t r (v.bf t) 23) : ∃ g' a b, OnceI nt rd (execV t v (n * 41 + 23) r (.set 7 0)) g' a b := by
  exact ⟨g, e5, e2, H.quiet ht (fun x hx => by cases hx) ⟨n, 24, rfl, .inl ⟨hn, by decide, .inl rfl, by simp only [oA] at hA ⊢; simp_all [updR]⟩⟩⟩
theorem once_25 (H : OnceI nt rd v g e5 e2) (ht : t < nt) {n : Nat} {r : Nat → Int} (hn : n < rd t) (hA : oA g (v.mem 17) e5 e2 t r (v.bf t) 25) : ∃ g' a b, OnceI nt rd (execV t v (n * 41 + 25) r (.zero 7 (n * 41 + 41))) g' a b := by
  dsimp only [execV]
  by_cases hz : r 7 = 0
  · rw [if_pos hz]
    exact ⟨g, e5, e2, H.quiet ht (fun x hx => by cases hx) (OLoc.next rfl hn rfl (hA25 hA hz).1 (hA25 hA hz).2)⟩
  · rw [if_neg hz]
    exact ⟨g, e5, e2, H.quiet ht (fun x hx => by cases hx) ⟨n, 26, rfl, .inl ⟨hn, by decide, .inl rfl, by simp only [oA] at hA ⊢; simp_all⟩⟩⟩
theorem once_27 (H : OnceI nt rd v g e5 e2) (ht : t < nt) {n : Nat} {r : Nat → Int} (hn : n < rd t) (hA : oA g (v.mem 17) e5 e2 t r (v.bf t) 27) : ∃ g' a b, OnceI nt rd (execV t v (n * 41 + 27) r (.load 4 17)) g' a b := by
  exact ⟨g, e5, e2, H.quiet ht (fun x hx => nu_kind (by rw [List.mem_singleton.1 hx]; exact (by decide : (1 : Int) ≠ 7))) ⟨n, 28, rfl, .inl ⟨hn, by decide, .inl rfl, by simp only [oA] at hA ⊢; refine ⟨hA.1, hA.2.1, hA.2.2.1, hA.2.2.2, ?_⟩; rw [updR_at]; exact see17 v.mem hA.2.1⟩⟩⟩
theorem once_28 (H : OnceI nt rd v g e5 e2) (ht : t < nt) {n : Nat} {r : Nat → Int} (hn : n < rd t) (hA : oA g (v.mem 17) e5 e2 t r (v.bf t) 28) : ∃ g' a b, OnceI nt rd (execV t v (n * 41 + 28) r (.set 5 ((t : Int) + 1))) g' a b := by
  exact ⟨g, e5, e2, H.quiet ht (fun x hx => by cases hx) ⟨n, 29, rfl, .inl ⟨hn, by decide, .inl rfl, by simp only [oA] at hA ⊢; simp_all [updR]⟩⟩⟩
theorem once_29 (H : OnceI nt rd v g e5 e2) (ht : t < nt) {n : Nat} {r : Nat → Int} (hn : n < rd t) (hA : oA g (v.mem 17) e5 e2 t r (v.bf t) 29) : ∃ g' a b, OnceI nt rd (execV t v (n * 41 + 29) r (.same 6 4 5)) g' a b := by
  exact ⟨g, e5, e2, H.quiet ht (fun x hx => by cases hx) ⟨n, 30, rfl, .inl ⟨hn, by decide, .inl rfl, by simp only [oA] at hA ⊢; simp_all [updR]⟩⟩⟩
theorem once_30 (H : OnceI nt rd v g e5 e2) (ht : t < nt) {n : Nat} {r : Nat → Int} (hn : n < rd t) (hA : oA g (v.mem 17) e5 e2 t r (v.bf t) 30) : ∃ g' a b, OnceI nt rd (execV t v (n * 41 + 30) r (.some 6 (n * 41 + 33))) g' a b := by
  dsimp only [execV]
  by_cases hz : r 6 = 0
  · rw [if_pos hz]
    simp only [oA] at hA; simp_all
  · rw [if_neg hz]
    exact ⟨g, e5, e2, H.quiet ht (fun x hx => by cases hx) ⟨n, 33, rfl, .inl ⟨hn, by decide, .inl rfl, by simp only [oA] at hA ⊢; simp_all [updR]⟩⟩⟩
theorem once_33 (H : OnceI nt rd v g e5 e2) (ht : t < nt) {n : Nat} {r : Nat → Int} (hn : n < rd t) (hA : oA g (v.mem 17) e5 e2 t r (v.bf t) 33) : ∃ g' a b, OnceI nt rd (execV t v (n * 41 + 33) r (.set 4 0)) g' a b := by
  exact ⟨g, e5, e2, H.quiet ht (fun x hx => by cases hx) ⟨n, 34, rfl, .inl ⟨hn, by decide, .inl rfl, by simp only [oA] at hA ⊢; simp_all [updR]⟩⟩⟩
theorem once_35 (H : OnceI nt rd v g e5 e2) (ht : t < nt) {n : Nat} {r : Nat → Int} (hn : n < rd t) (hA : oA g (v.mem 17) e5 e2 t r (v.bf t) 35) : ∃ g' a b, OnceI nt rd (execV t v (n * 41 + 35) r (.set 4 2)) g' a b := by
  exact ⟨g, e5, e2, H.quiet ht (fun x hx => by cases hx) ⟨n, 36, rfl, .inl ⟨hn, by decide, .inl rfl, by simp only [oA] at hA ⊢; simp_all [updR]⟩⟩⟩
theorem once_37 (H : OnceI nt rd v g e5 e2) (ht : t < nt) {n : Nat} {r : Nat → Int} (hn : n < rd t) (hA : oA g (v.mem 17) e5 e2 t r (v.bf t) 37) : ∃ g' a b, OnceI nt rd (execV t v (n * 41 + 37) r (.set 4 4294967295)) g' a b := by
  exact ⟨g, e5, e2, H.quiet ht (fun x hx => by cases hx) ⟨n, 38, rfl, .inl ⟨hn, by decide, .inl rfl, by simp only [oA] at hA ⊢; simp_all [updR]⟩⟩⟩
theorem once_39 (H : OnceI nt rd v g e5 e2) (ht : t < nt) {n : Nat} {r : Nat → Int} (hn : n < rd t) (hA : oA g (v.mem 17) e5 e2 t r (v.bf t) 39) : ∃ g' a b, OnceI nt rd (execV t v (n * 41 + 39) r (.set 7 0)) g' a b := by
  exact ⟨g, e5, e2, H.quiet ht (fun x hx => by cases hx) ⟨n, 40, rfl, .inl ⟨hn, by decide, .inl rfl, by simp only [oA] at hA ⊢; simp_all [updR]⟩⟩⟩
theorem once_20 (H : OnceI nt rd v g e5 e2) (ht : t < nt) {n : Nat} {r : Nat → Int} (hn : n < rd t) (hA : oA g (v.mem 17) e5 e2 t r (v.bf t) 20) : ∃ g' a b, OnceI nt rd (execV t v (n * 41 + 20) r (.store 5 17)) g' a b := by
  exact ⟨g, e5, e2, H.quiet ht (fun x hx => nu_kind (by rw [List.mem_singleton.1 hx]; exact (by decide : (2 : Int) ≠ 7))) ⟨n, 21, rfl, .inl ⟨hn, by decide, .inl rfl, by simp only [oA] at hA ⊢; obtain ⟨h1, h2, h3, h4, h5, h6⟩ := hA; exact ⟨h1, .inl ⟨by rw [h2, h3]; rfl, h4⟩, h5, h6⟩⟩⟩⟩
theorem once_34 (H : OnceI nt rd v g e5 e2) (ht : t < nt) {n : Nat} {r : Nat → Int} (hn : n < rd t) (hA : oA g (v.mem 17) e5 e2 t r (v.bf t) 34) : ∃ g' a b, OnceI nt rd (execV t v (n * 41 + 34) r (.store 4 17)) g' a b := by
  exact ⟨g, e5, e2, H.quiet ht (fun x hx => nu_kind (by rw [List.mem_singleton.1 hx]; exact (by decide : (2 : Int) ≠ 7))) ⟨n, 35, rfl, .inl ⟨hn, by decide, .inl rfl, by
    simp only [oA] at hA ⊢
    obtain ⟨h1, h2, h3, h4, h5⟩ : _ ∧ _ ∧ _ ∧ _ ∧ _ := ⟨hA.1, hA.2.1, hA.2.2.1, hA.2.2.2.1, hA.2.2.2.2⟩
    refine ⟨h1, ?_, h3, h4⟩
    rw [h5]
    rcases h2 with ⟨q1, q2⟩ | ⟨q1, q2⟩
    · exact .inl ⟨by rw [q1]; rfl, q2⟩
    · exact .inr (.inl ⟨by rw [q1]; rfl, q2⟩)⟩⟩⟩
theorem once_13 (H : OnceI nt rd v g e5 e2) (ht : t < nt) {n : Nat} {r : Nat → Int} (hn : n < rd t) (hd : v.bf t = []) (hA : oA g (v.mem 17) e5 e2 t r (v.bf t) 13) : ∃ g' a b, OnceI nt rd (execV t v (n * 41 + 13) r (.cas 4 6 16)) g' a b := by
  simp only [oA] at hA
  obtain ⟨h1, h2, h3, h4, h5⟩ : _ ∧ _ ∧ _ ∧ _ ∧ _ := ⟨hA.1, hA.2.1, hA.2.2.1, hA.2.2.2.1, hA.2.2.2.2⟩
  dsimp only [execV]
  by_cases hz : v.mem 16 = r 4
  · rw [if_pos hz]
    rw [h4] at hz
    have hg : g = .free := H.zero hz
    subst hg
    obtain ⟨s1, s2, s3, s4⟩ := H.sh
    subst s3 s4
    refine ⟨.busy t, 0, 0, H.turn ht (fun u hu => ⟨by simp, by simp [Ne.symm hu]⟩) id ⟨by rw [upd_same]; exact h5, ht⟩ ⟨n, 14, rfl, .inl ⟨hn, by decide, .inl rfl, ?_⟩⟩ ?_ ?_ ?_⟩
    · simp only [oA]; exact .inr ⟨trivial, h2, by rw [updR_at]; exact hz, by rw [updR_ot _ _ _ _ (by decide)]; exact h3, by rw [upd_ne _ _ _ (by decide)]; exact s2, trivial, trivial⟩
    · exact (cntE_quiet (fun x hx => isMV_no (by decide) (nu_kind (by rw [List.mem_singleton.1 hx]; exact (by decide : (4 : Int) ≠ 7))))).trans H.h5
    · exact (cntE_quiet (fun x hx => isM_no (by decide) (nu_kind (by rw [List.mem_singleton.1 hx]; exact (by decide : (4 : Int) ≠ 7))))).trans H.h2
    · exact okE_quiet H.ev (fun x hx => nu_kind (by rw [List.mem_singleton.1 hx]; exact (by decide : (4 : Int) ≠ 7)))
  · rw [if_neg hz]
    exact ⟨g, e5, e2, H.quiet ht (fun x hx => nu_kind (by rw [List.mem_singleton.1 hx]; exact (by decide : (4 : Int) ≠ 7))) ⟨n, 14, rfl, .inl ⟨hn, by decide, .inl rfl, by simp only [oA]; exact .inl ⟨h1, h2, by rw [updR_at]; rw [h4] at hz; exact hz, by rw [updR_ot _ _ _ _ (by decide)]; exact h3⟩⟩⟩⟩
theorem once_18 (H : OnceI nt rd v g e5 e2) (ht : t < nt) {n : Nat} {r : Nat → Int} (hn : n < rd t) (hA : oA g (v.mem 17) e5 e2 t r (v.bf t) 18) : ∃ g' a b, OnceI nt rd (execV t v (n * 41 + 18) r (.wait 4 16)) g' a b := by
  dsimp only [execV]
  have hA' : ∀ x, oA g (v.mem 17) e5 e2 t (updR r 4 x) (v.bf t) 19 := fun x => by simp only [oA] at hA ⊢; exact ⟨hA.1, hA.2.1, by rw [updR_ot _ _ _ _ (by decide)]; exact hA.2.2⟩
  by_cases hz : v.mem 16 = r 4
  · rw [if_pos hz]
    exact ⟨g, e5, e2, (H.quiet ht (fun x hx => nu_kind (by rw [List.mem_singleton.1 hx]; exact (by decide : (8 : Int) ≠ 7))) ⟨n, 19, rfl, .inl ⟨hn, by decide, .inr rfl, hA' 0⟩⟩).slp _⟩
  · rw [if_neg hz]
    exact ⟨g, e5, e2, H.quiet ht (fun x hx => nu_kind (by rw [List.mem_singleton.1 hx]; exact (by decide : (8 : Int) ≠ 7))) ⟨n, 19, rfl, .inl ⟨hn, by decide, .inl rfl, hA' 1⟩⟩⟩
theorem once_24 (H : OnceI nt rd v g e5 e2) (ht : t < nt) {n : Nat} {r : Nat → Int} (hn : n < rd t) (hA : oA g (v.mem 17) e5 e2 t r (v.bf t) 24) : ∃ g' a b, OnceI nt rd (execV t v (n * 41 + 24) r (.mark 1)) g' a b := by
  simp only [oA] at hA
  rcases hA with ⟨h1, h2, h3, h4⟩ | ⟨h1, h2, h3, h4, h5⟩
  · refine ⟨g, e5, e2, H.note ht ⟨n, 25, rfl, .inl ⟨hn, by decide, .inl rfl, ?_⟩⟩ ?_ ?_ ?_⟩
    · simp only [oA]; exact .inl ⟨h1, h2, h4⟩
    · rw [cntE_snoc, H.h5]; show e5 + (if isMV 1 5 ⟨7, _, _, _, r 7, _, _, _⟩ = true then 1 else 0) = e5; rw [h4]; rfl
    · rw [cntE_snoc, H.h2]; rfl
    · exact okE_snoc H.ev _ (fun _ => ⟨H.who ht, fun q => absurd q (show ((1 : Nat) : Int) ≠ 3 by decide), fun _ _ => ⟨h4, by rw [H.h2]; omega⟩⟩)
  · subst h1
    refine ⟨.busy t, 1, 0, H.turn ht (fun u hu => ⟨by simp [Ne.symm hu], by simp [Ne.symm hu]⟩) (fun q => by omega) H.sh ⟨n, 25, rfl, .inl ⟨hn, by decide, .inl rfl, ?_⟩⟩ ?_ ?_ ?_⟩
    · simp only [oA]; exact .inr ⟨trivial, h2, trivial, trivial, h5⟩
    · rw [cntE_snoc, H.h5, h3]; show 0 + (if isMV 1 5 ⟨7, _, _, _, r 7, _, _, _⟩ = true then 1 else 0) = 1; rw [h5]; rfl
    · rw [cntE_snoc, H.h2, h4]; rfl
    · exact okE_snoc H.ev _ (fun _ => ⟨H.who ht, fun q => absurd q (show ((1 : Nat) : Int) ≠ 3 by decide), fun _ q => absurd h5 q⟩)
theorem once_26 (H : OnceI nt rd v g e5 e2) (ht : t < nt) {n : Nat} {r : Nat → Int} (hn : n < rd t) (hA : oA g (v.mem 17) e5 e2 t r (v.bf t) 26) : ∃ g' a b, OnceI nt rd (execV t v (n * 41 + 26) r (.mark 2)) g' a b := by
  simp only [oA] at hA
  obtain ⟨h1, h2, h3, h4⟩ := hA
  subst h1
  refine ⟨.busy t, 1, 1, H.turn ht (fun u hu => ⟨by simp [Ne.symm hu], by simp [Ne.symm hu]⟩) (fun _ => rfl) H.sh ⟨n, 27, rfl, .inl ⟨hn, by decide, .inl rfl, ?_⟩⟩ ?_ ?_ ?_⟩
  · simp only [oA]; exact ⟨trivial, h2, trivial, trivial⟩
  · rw [cntE_snoc, H.h5, h3]; rfl
  · rw [cntE_snoc, H.h2, h4]; rfl
  · exact okE_snoc H.ev _ (fun _ => ⟨H.who ht, fun q => absurd q (show ((2 : Nat) : Int) ≠ 3 by decide), fun q => absurd q (show ((2 : Nat) : Int) ≠ 1 by decide)⟩)
theorem once_36 (H : OnceI nt rd v g e5 e2) (ht : t < nt) {n : Nat} {r : Nat → Int} (hn : n < rd t) (hd : v.bf t = []) (hA : oA g (v.mem 17) e5 e2 t r (v.bf t) 36) : ∃ g' a b, OnceI nt rd (execV t v (n * 41 + 36) r (.swap 4 16)) g' a b := by
  simp only [oA] at hA
  obtain ⟨h1, h2, h3, h4, h5⟩ : _ ∧ _ ∧ _ ∧ _ ∧ _ := ⟨hA.1, hA.2.1, hA.2.2.1, hA.2.2.2.1, hA.2.2.2.2⟩
  subst h1
  have hm : v.mem 17 = 0 := by
    rw [hd] at h2
    rcases h2 with ⟨q, _⟩ | ⟨q, _⟩ | ⟨_, q⟩
    · cases q
    · cases q
    · exact q
  refine ⟨.over, 1, 1, H.turn ht (fun u hu => ⟨by simp [Ne.symm hu], by simp⟩) (fun _ => rfl) ⟨by rw [upd_same]; exact h5, by rw [upd_ne _ _ _ (by decide)]; exact hm, Nat.le_refl _, rfl⟩ ⟨n, 37, rfl, .inl ⟨hn, by decide, .inl rfl, ?_⟩⟩ ?_ ?_ ?_⟩
  · simp only [oA]; exact ⟨by simp, hd⟩
  · exact ((cntE_quiet (fun x hx => isMV_no (by decide) (nu_kind (by rw [List.mem_singleton.1 hx]; exact (by decide : (4 : Int) ≠ 7))))).trans H.h5).trans h3
  · exact ((cntE_quiet (fun x hx => isM_no (by decide) (nu_kind (by rw [List.mem_singleton.1 hx]; exact (by decide : (4 : Int) ≠ 7))))).trans H.h2).trans h4
  · exact okE_quiet H.ev (fun x hx => nu_kind (by rw [List.mem_singleton.1 hx]; exact (by decide : (4 : Int) ≠ 7)))
theorem once_38 (H : OnceI nt rd v g e5 e2) (ht : t < nt) {n : Nat} {r : Nat → Int} (hn : n < rd t) (hA : oA g (v.mem 17) e5 e2 t r (v.bf t) 38) : ∃ g' a b, OnceI nt rd (execV t v (n * 41 + 38) r (.wake 4 16)) g' a b := by
  obtain ⟨w, hw⟩ : ∃ w, wk ((16 : Nat) : Int) (r 4).toNat v.slp = w := ⟨_, rfl⟩
  have K := ((H.run w.2).slp w.1).quiet ht (l := [⟨9, (t : Int), ((n * 41 + 38 : Nat) : Int), ((16 : Nat) : Int), (w.2.length : Int), 0, 0, false⟩]) (fun x hx => nu_kind (by rw [List.mem_singleton.1 hx]; exact (by decide : (9 : Int) ≠ 7))) (th := ⟨((n * 41 + 38 + 1 : Nat) : Int), updR r 4 (w.2.length : Int), 0⟩) (b := v.bf t) ⟨n, 39, rfl, .inl ⟨hn, by decide, .inl rfl, by simp only [oA] at hA ⊢; exact hA⟩⟩
  refine ⟨g, e5, e2, ?_⟩
  dsimp only [execV]
  simp only [hw]
  unfold Vw.mv at K
  simp only [upd_self] at K
  exact K
theorem once_40 (H : OnceI nt rd v g e5 e2) (ht : t < nt) {n : Nat} {r : Nat → Int} (hn : n < rd t) (hA : oA g (v.mem 17) e5 e2 t r (v.bf t) 40) : ∃ g' a b, OnceI nt rd (execV t v (n * 41 + 40) r (.mark 3)) g' a b := by
  simp only [oA] at hA
  obtain ⟨h1, h3, h2⟩ : _ ∧ _ ∧ _ := ⟨hA.1, hA.2.1, hA.2.2⟩
  refine ⟨g, e5, e2, H.note ht (OLoc.next rfl hn rfl h1 h3) ?_ ?_ ?_⟩
  · rw [cntE_snoc, H.h5]; rfl
  · rw [cntE_snoc, H.h2]; rfl
  · exact okE_snoc H.ev _ (fun _ => ⟨H.who ht, fun _ => h2, fun q => absurd q (show ((3 : Nat) : Int) ≠ 1 by decide)⟩)
theorem once_exec (H : OnceI nt rd v g e5 e2) (ht : t < nt) {n o : Nat} {r : Nat → Int} (hn : n < rd t) (ho : o < 41) (hA : oA g (v.mem 17) e5 e2 t r (v.bf t) o) : ∃ op, (onceL t (n * 41))[o]? = some op ∧ ((op.drains = true → v.bf t = []) → ∃ g' a b, OnceI nt rd (execV t v (n * 41 + o) r op) g' a b) := by
  match o, ho, hA with
  | 0, _, hA => exact ⟨_, rfl, fun _ => once_0 H ht hn hA⟩
  | 1, _, hA => exact ⟨_, rfl, fun _ => once_1 H ht hn hA⟩
  | 2, _, hA => exact ⟨_, rfl, fun _ => once_2 H ht hn hA⟩
  | 3, _, hA => exact ⟨_, rfl, fun _ => once_3 H ht hn hA⟩
  | 4, _, hA => exact ⟨_, rfl, fun _ => once_4 H ht hn hA⟩
  | 5, _, hA => exact hA.elim
  | 6, _, hA => exact hA.elim
  | 7, _, hA => exact ⟨_, rfl, fun _ => once_7 H ht hn hA⟩
  | 8, _, hA => exact ⟨_, rfl, fun _ => once_8 H ht hn hA⟩
  | 9, _, hA => exact ⟨_, rfl, fun _ => once_9 H ht hn hA⟩
  | 10, _, hA => exact ⟨_, rfl, fun _ => once_10 H ht hn hA⟩
  | 11, _, hA => exact ⟨_, rfl, fun _ => once_11 H ht hn hA⟩
  | 12, _, hA => exact ⟨_, rfl, fun _ => once_12 H ht hn hA⟩
  | 13, _, hA => exact ⟨_, rfl, fun hd => once_13 H ht hn (hd rfl) hA⟩
  | 14, _, hA => exact ⟨_, rfl, fun _ => once_14 H ht hn hA⟩
  | 15, _, hA => exact ⟨_, rfl, fun _ => once_15 H ht hn hA⟩
  | 16, _, hA => exact ⟨_, rfl, fun _ => once_16 H ht hn hA⟩
  | 17, _, hA => exact ⟨_, rfl, fun _ => once_17 H ht hn hA⟩
  | 18, _, hA => exact ⟨_, rfl, fun _ => once_18 H ht hn hA⟩
  | 19, _, hA => exact ⟨_, rfl, fun _ => once_19 H ht hn hA⟩
  | 20, _, hA => exact ⟨_, rfl, fun _ => once_20 H ht hn hA⟩
  | 21, _, hA => exact ⟨_, rfl, fun _ => once_21 H ht hn hA⟩
  | 22, _, hA => exact ⟨_, rfl, fun _ => once_22 H ht hn hA⟩
  | 23, _, hA => exact ⟨_, rfl, fun _ => once_23 H ht hn hA⟩
  | 24, _, hA => exact ⟨_, rfl, fun _ => once_24 H ht hn hA⟩
  | 25, _, hA => exact ⟨_, rfl, fun _ => once_25 H ht hn hA⟩
  | 26, _, hA => exact ⟨_, rfl, fun _ => once_26 H ht hn hA⟩
  | 27, _, hA => exact ⟨_, rfl, fun _ => once_27 H ht hn hA⟩
  | 28, _, hA => exact ⟨_, rfl, fun _ => once_28 H ht hn hA⟩
  | 29, _, hA => exact ⟨_, rfl, fun _ => once_29 H ht hn hA⟩
  | 30, _, hA => exact ⟨_, rfl, fun _ => once_30 H ht hn hA⟩
  | 31, _, hA => exact hA.elim
  | 32, _, hA => exact hA.elim
  | 33, _, hA => exact ⟨_, rfl, fun _ => once_33 H ht hn hA⟩
  | 34, _, hA => exact ⟨_, rfl, fun _ => once_34 H ht hn hA⟩
  | 35, _, hA => exact ⟨_, rfl, fun _ => once_35 H ht hn hA⟩
  | 36, _, hA => exact ⟨_, rfl, fun hd => once_36 H ht hn (hd rfl) hA⟩
  | 37, _, hA => exact ⟨_, rfl, fun _ => once_37 H ht hn hA⟩
  | 38, _, hA => exact ⟨_, rfl, fun _ => once_38 H ht hn hA⟩
  | 39, _, hA => exact ⟨_, rfl, fun _ => once_39 H ht hn hA⟩
  | 40, _, hA => exact ⟨_, rfl, fun _ => once_40 H ht hn hA⟩
  | o + 41, ho, _ => exact absurd ho (by omega)
end
end Go.Proofs.YtmhfpjnkjlhbpaaGreatDoor
