/- once (plain): the code of a thread that enters what is done once, and does it if it is told so; what holds whatever the turns. once (plain): whatever is picked, what holds of what is done once holds. barrier (plain): the code of a thread that enters; what holds whatever the turns. -/
import Derived.Test.YtmhfpjnkjlhbpaaGreatDoorQb25
namespace Go.Proofs.YtmhfpjnkjlhbpaaGreatDoor
open Go.ChangeShapes Go.WideShapes Go.ChangeAt Go.RowKit Go.Deep
set_option linter.unusedVariables false
set_option maxRecDepth 100000
set_option linter.unusedSimpArgs false

/-! ### counting marks -/
def isM (k : Int) (x : Evt) : Bool := x.kind == 7 && x.k == k
def isMV (k u : Int) (x : Evt) : Bool := x.kind == 7 && x.k == k && x.value == u
def cntE (f : Evt → Bool) (l : List Evt) : Nat := (l.filter f).length
theorem cntE_quiet {f : Evt → Bool} {l m : List Evt} (h : ∀ x ∈ m, f x = false) : cntE f (l ++ m) = cntE f l := by
  unfold cntE
  have e : m.filter f = [] := List.filter_eq_nil_iff.2 (fun x hx => by rw [h x hx]; decide)
  rw [List.filter_append, e, List.append_nil]
def nuE (x : Evt) : Prop := x.kind ≠ 7
theorem isM_no {k : Int} (hk : k ≠ 0) {x : Evt} (h : nuE x) : isM k x = false := by
  unfold isM
  unfold nuE at h
  simp [h]
theorem isMV_no {k u : Int} (hk : k ≠ 0) {x : Evt} (h : nuE x) : isMV k u x = false := by
  unfold isMV
  unfold nuE at h
  simp [h]
theorem nu_kind {x : Evt} (h : x.kind ≠ 7) : nuE x := h

/-! ### the code of a round, placed at q -/
def onceL (t q : Nat) : List Op := [.mark 0, .load 4 17, .set 5 ((t : Int) + 1), .same 6 4 5, .zero 6 (q + 7), .set 7 1, .jump (q + 24), .load 4 16, .set 6 2, .same 6 4 6, .some 6 (q + 23), .set 4 0, .set 6 1, .cas 4 6 16, .zero 4 (q + 20), .set 6 1, .same 6 4 6, .zero 6 (q + 7), .wait 4 16, .jump (q + 7), .store 5 17, .set 7 5, .jump (q + 24), .set 7 0, .mark 1, .zero 7 (q + 41), .mark 2, .load 4 17, .set 5 ((t : Int) + 1), .same 6 4 5, .some 6 (q + 33), .set 7 2, .jump (q + 40), .set 4 0, .store 4 17, .set 4 2, .swap 4 16, .set 4 4294967295, .wake 4 16, .set 7 0, .mark 3]
inductive Ph
  | free | busy (u : Nat) | over
def S1 (m : Int) (t : Nat) (b : List Ent) : Prop := (b = [(17, (t : Int) + 1)] ∧ m = 0) ∨ (b = [] ∧ m = (t : Int) + 1)
def S2 (m : Int) (t : Nat) (b : List Ent) : Prop := (b = [(17, (t : Int) + 1), (17, 0)] ∧ m = 0) ∨ (b = [(17, 0)] ∧ m = (t : Int) + 1) ∨ (b = [] ∧ m = 0)
def oA (g : Ph) (m : Int) (e5 e2 : Nat) (t : Nat) (r : Nat → Int) (b : List Ent) : Nat → Prop
  | 0 => g ≠ .busy t ∧ b = []
  | 1 => g ≠ .busy t ∧ b = []
  | 2 => g ≠ .busy t ∧ b = [] ∧ r 4 ≠ ((t : Int) + 1)
  | 3 => g ≠ .busy t ∧ b = [] ∧ r 4 ≠ ((t : Int) + 1) ∧ r 5 = ((t : Int) + 1)
  | 4 => g ≠ .busy t ∧ b = [] ∧ r 6 = 0 ∧ r 5 = ((t : Int) + 1)
  | 7 => g ≠ .busy t ∧ b = [] ∧ r 5 = ((t : Int) + 1)
  | 8 => g ≠ .busy t ∧ b = [] ∧ r 5 = ((t : Int) + 1) ∧ (r 4 = 2 → e2 = 1)
  | 9 => g ≠ .busy t ∧ b = [] ∧ r 5 = ((t : Int) + 1) ∧ r 6 = 2 ∧ (r 4 = 2 → e2 = 1)
  | 10 => g ≠ .busy t ∧ b = [] ∧ r 5 = ((t : Int) + 1) ∧ (r 6 ≠ 0 → e2 = 1)
  | 11 => g ≠ .busy t ∧ b = [] ∧ r 5 = ((t : Int) + 1)
  | 12 => g ≠ .busy t ∧ b = [] ∧ r 5 = ((t : Int) + 1) ∧ r 4 = 0
  | 13 => g ≠ .busy t ∧ b = [] ∧ r 5 = ((t : Int) + 1) ∧ r 4 = 0 ∧ r 6 = 1
  | 14 => (g ≠ .busy t ∧ b = [] ∧ r 4 ≠ 0 ∧ r 5 = ((t : Int) + 1)) ∨ (g = .busy t ∧ b = [] ∧ r 4 = 0 ∧ r 5 = ((t : Int) + 1) ∧ m = 0 ∧ e5 = 0 ∧ e2 = 0)
  | 15 => g ≠ .busy t ∧ b = [] ∧ r 5 = ((t : Int) + 1)
  | 16 => g ≠ .busy t ∧ b = [] ∧ r 5 = ((t : Int) + 1)
  | 17 => g ≠ .busy t ∧ b = [] ∧ r 5 = ((t : Int) + 1)
  | 18 => g ≠ .busy t ∧ b = [] ∧ r 5 = ((t : Int) + 1)
  | 19 => g ≠ .busy t ∧ b = [] ∧ r 5 = ((t : Int) + 1)
  | 20 => g = .busy t ∧ b = [] ∧ r 5 = ((t : Int) + 1) ∧ m = 0 ∧ e5 = 0 ∧ e2 = 0
  | 21 => g = .busy t ∧ S1 m t b ∧ e5 = 0 ∧ e2 = 0
  | 22 => g = .busy t ∧ S1 m t b ∧ e5 = 0 ∧ e2 = 0 ∧ r 7 = 5
  | 23 => g ≠ .busy t ∧ b = [] ∧ e2 = 1
  | 24 => (g ≠ .busy t ∧ b = [] ∧ e2 = 1 ∧ r 7 = 0) ∨ (g = .busy t ∧ S1 m t b ∧ e5 = 0 ∧ e2 = 0 ∧ r 7 = 5)
  | 25 => (g ≠ .busy t ∧ b = [] ∧ r 7 = 0) ∨ (g = .busy t ∧ S1 m t b ∧ e5 = 1 ∧ e2 = 0 ∧ r 7 = 5)
  | 26 => g = .busy t ∧ S1 m t b ∧ e5 = 1 ∧ e2 = 0
  | 27 => g = .busy t ∧ S1 m t b ∧ e5 = 1 ∧ e2 = 1
  | 28 => g = .busy t ∧ S1 m t b ∧ e5 = 1 ∧ e2 = 1 ∧ r 4 = ((t : Int) + 1)
  | 29 => g = .busy t ∧ S1 m t b ∧ e5 = 1 ∧ e2 = 1 ∧ r 4 = ((t : Int) + 1) ∧ r 5 = ((t : Int) + 1)
  | 30 => g = .busy t ∧ S1 m t b ∧ e5 = 1 ∧ e2 = 1 ∧ r 6 = 1
  | 33 => g = .busy t ∧ S1 m t b ∧ e5 = 1 ∧ e2 = 1
  | 34 => g = .busy t ∧ S1 m t b ∧ e5 = 1 ∧ e2 = 1 ∧ r 4 = 0
  | 35 => g = .busy t ∧ S2 m t b ∧ e5 = 1 ∧ e2 = 1
  | 36 => g = .busy t ∧ S2 m t b ∧ e5 = 1 ∧ e2 = 1 ∧ r 4 = 2
  | 37 => g ≠ .busy t ∧ b = []
  | 38 => g ≠ .busy t ∧ b = []
  | 39 => g ≠ .busy t ∧ b = []
  | 40 => g ≠ .busy t ∧ b = [] ∧ r 7 = 0
  | _ => False
def OLoc (g : Ph) (m : Int) (e5 e2 : Nat) (t rd : Nat) (th : Th) (b : List Ent) : Prop :=
  ∃ n o, th.pc = ((n * 41 + o : Nat) : Int) ∧ ((n < rd ∧ o < 41 ∧ (th.st = 0 ∨ th.st = 1) ∧ oA g m e5 e2 t th.regs b o) ∨ (n = rd ∧ o = 0 ∧ (th.st = 0 ∨ th.st = 2) ∧ g ≠ .busy t ∧ b = []))
def okE (l : List Evt) : Prop := ∀ (i : Nat) (x : Evt), l[i]? = some x → x.kind = 7 → (0 ≤ x.who ∧ x.who < 8) ∧ (x.k = 3 → x.value = 0) ∧ (x.k = 1 → x.value ≠ 5 → x.value = 0 ∧ ∃ (j : Nat) (y : Evt), j < i ∧ l[j]? = some y ∧ y.kind = 7 ∧ y.k = 2)
theorem okE_snoc {l : List Evt} (h : okE l) (x : Evt) (hx : x.kind = 7 → (0 ≤ x.who ∧ x.who < 8) ∧ (x.k = 3 → x.value = 0) ∧ (x.k = 1 → x.value ≠ 5 → x.value = 0 ∧ 0 < cntE (isM 2) l)) : okE (l ++ [x]) := fun i y hy hk => by
  rcases Nat.lt_or_ge i l.length with c | c
  · rw [List.getElem?_append_left c] at hy
    refine ⟨(h i y hy hk).1, (h i y hy hk).2.1, fun h1 h2 => ?_⟩
    obtain ⟨q0, j, z, q1, q2, q3⟩ := (h i y hy hk).2.2 h1 h2
    exact ⟨q0, j, z, q1, by rw [List.getElem?_append_left (by omega)]; exact q2, q3⟩
  · rw [List.getElem?_append_right c] at hy
    have hi : i - l.length = 0 := by
      have := (List.getElem?_eq_some_iff.1 hy).1
      simpa using this
    rw [hi] at hy
    obtain rfl : x = y := by simpa using hy
    refine ⟨(hx hk).1, (hx hk).2.1, fun h1 h2 => ?_⟩
    obtain ⟨q0, q1⟩ := (hx hk).2.2 h1 h2
    refine ⟨q0, ?_⟩
    unfold cntE at q1
    obtain ⟨z, hz⟩ := List.exists_mem_of_length_pos q1
    obtain ⟨hz1, hz2⟩ := List.mem_filter.1 hz
    obtain ⟨j, hj, e⟩ := List.getElem_of_mem hz1
    unfold isM at hz2
    simp only [Bool.and_eq_true, beq_iff_eq] at hz2
    exact ⟨j, z, by omega, by rw [List.getElem?_append_left hj, List.getElem?_eq_getElem hj, e], hz2.1, hz2.2⟩
theorem okE_quiet {l m : List Evt} (h : okE l) (hm : ∀ x ∈ m, nuE x) : okE (l ++ m) := by
  induction m generalizing l with
  | nil => rw [List.append_nil]; exact h
  | cons x m ih =>
    rw [show l ++ x :: m = (l ++ [x]) ++ m by simp]
    exact ih (okE_snoc h x (fun q => absurd q (hm x (by simp)))) (fun y hy => hm y (by simp [hy]))
def oSh (nt : Nat) (m : Nat → Int) (e5 e2 : Nat) : Ph → Prop
  | .free => m 16 = 0 ∧ m 17 = 0 ∧ e5 = 0 ∧ e2 = 0
  | .busy u => m 16 = 1 ∧ u < nt
  | .over => m 16 = 2 ∧ m 17 = 0 ∧ e5 ≤ 1 ∧ e2 = 1
structure OnceI (nt : Nat) (rd : Nat → Nat) (v : Vw) (g : Ph) (e5 e2 : Nat) : Prop where
  n8 : nt ≤ 8
  sh : oSh nt v.mem e5 e2 g
  loc : ∀ t, t < nt → OLoc g (v.mem 17) e5 e2 t (rd t) (v.th t) (v.bf t)
  h5 : cntE (isMV 1 5) v.evs = e5
  h2 : cntE (isM 2) v.evs = e2
  ev : okE v.evs
section
variable {nt : Nat} {rd : Nat → Nat} {v : Vw} {g : Ph} {e5 e2 t : Nat}
theorem oA_other {g g' : Ph} {m m' : Int} {e5 e2 e5' e2' : Nat} {r : Nat → Int} {b : List Ent} {o : Nat} (h : oA g m e5 e2 t r b o) (hg : g ≠ .busy t) (hg' : g' ≠ .busy t) (he : e2 = 1 → e2' = 1) : oA g' m' e5' e2' t r b o := by
  unfold oA at h ⊢
  split at h
  all_goals first
    | exact h.elim
    | exact ⟨hg', h.2⟩
    | exact absurd h.1 hg
    | exact ⟨hg', h.2.1, h.2.2.1, fun q => he (h.2.2.2 q)⟩
    | exact ⟨hg', h.2.1, h.2.2.1, h.2.2.2.1, fun q => he (h.2.2.2.2 q)⟩
    | exact ⟨hg', h.2.1, he h.2.2⟩
    | exact .inl (h.elim (fun q => ⟨hg', q.2⟩) (fun q => absurd q.1 hg))
    | exact .inl (h.elim (fun q => ⟨hg', q.2.1, he q.2.2.1, q.2.2.2⟩) (fun q => absurd q.1 hg))
theorem OLoc.other {g g' : Ph} {m m' : Int} {e5 e2 e5' e2' rd : Nat} {th : Th} {b : List Ent} (h : OLoc g m e5 e2 t rd th b) (hg : g ≠ .busy t) (hg' : g' ≠ .busy t) (he : e2 = 1 → e2' = 1) : OLoc g' m' e5' e2' t rd th b := by
  obtain ⟨n, o, h1, h2⟩ := h
  refine ⟨n, o, h1, h2.imp (fun q => ⟨q.1, q.2.1, q.2.2.1, oA_other q.2.2.2 hg hg' he⟩) (fun q => ⟨q.1, q.2.1, q.2.2.1, hg', q.2.2.2.2⟩)⟩
theorem OnceI.quiet (H : OnceI nt rd v g e5 e2) (ht : t < nt) {th : Th} {b : List Ent} {l : List Evt} (hl : ∀ x ∈ l, nuE x) (hloc : OLoc g (v.mem 17) e5 e2 t (rd t) th b) : OnceI nt rd (v.mv t th b v.mem l) g e5 e2 := by
  refine ⟨H.n8, H.sh, fun u hu => ?_, ?_, ?_, okE_quiet H.ev hl⟩
  · by_cases c : u = t
    · subst c
      show OLoc g (v.mem 17) e5 e2 u (rd u) (upd v.th u th u) (upd v.bf u b u)
      rw [upd_same, upd_same]; exact hloc
    · show OLoc g (v.mem 17) e5 e2 u (rd u) (upd v.th t th u) (upd v.bf t b u)
      rw [upd_ne _ _ _ c, upd_ne _ _ _ c]; exact H.loc u hu
  · exact (cntE_quiet (fun x hx => isMV_no (by decide) (hl x hx))).trans H.h5
  · exact (cntE_quiet (fun x hx => isM_no (by decide) (hl x hx))).trans H.h2
theorem OnceI.turn (H : OnceI nt rd v g e5 e2) (ht : t < nt) {th : Th} {b : List Ent} {mem : Nat → Int} {l : List Evt} {g' : Ph} {e5' e2' : Nat} (hg : ∀ u, u ≠ t → g ≠ .busy u ∧ g' ≠ .busy u) (he : e2 = 1 → e2' = 1)
    (sh : oSh nt mem e5' e2' g')
    (hloc : OLoc g' (mem 17) e5' e2' t (rd t) th b) (h5 : cntE (isMV 1 5) (v.evs ++ l) = e5') (h2 : cntE (isM 2) (v.evs ++ l) = e2') (ev : okE (v.evs ++ l)) : OnceI nt rd (v.mv t th b mem l) g' e5' e2' := by
  refine ⟨H.n8, sh, fun u hu => ?_, h5, h2, ev⟩
  by_cases c : u = t
  · subst c
    show OLoc g' (mem 17) e5' e2' u (rd u) (upd v.th u th u) (upd v.bf u b u)
    rw [upd_same, upd_same]; exact hloc
  · show OLoc g' (mem 17) e5' e2' u (rd u) (upd v.th t th u) (upd v.bf t b u)
    rw [upd_ne _ _ _ c, upd_ne _ _ _ c]; exact (H.loc u hu).other (hg u c).1 (hg u c).2 he
theorem OnceI.slp (H : OnceI nt rd v g e5 e2) (l : List Slp) : OnceI nt rd { v with slp := l } g e5 e2 := ⟨H.n8, H.sh, H.loc, H.h5, H.h2, H.ev⟩
theorem OLoc.run {m : Int} {rd : Nat} {th : Th} {b : List Ent} (h : OLoc g m e5 e2 t rd th b) : OLoc g m e5 e2 t rd { th with st := 0 } b := by
  obtain ⟨n, o, h1, h2⟩ := h
  exact ⟨n, o, h1, h2.imp (fun q => ⟨q.1, q.2.1, .inl rfl, q.2.2.2⟩) (fun q => ⟨q.1, q.2.1, .inl rfl, q.2.2.2⟩)⟩
theorem OnceI.run (H : OnceI nt rd v g e5 e2) (ws : List Int) : OnceI nt rd { v with th := runV ws v.th } g e5 e2 := by
  refine ⟨H.n8, H.sh, fun u hu => ?_, H.h5, H.h2, H.ev⟩
  show OLoc g (v.mem 17) e5 e2 u (rd u) (if (u : Int) ∈ ws then { v.th u with st := 0 } else v.th u) (v.bf u)
  split
  · exact (H.loc u hu).run
  · exact H.loc u hu
theorem OLoc.next {m : Int} {rd n : Nat} {th : Th} {b : List Ent} (hpc : th.pc = ((n * 41 + 41 : Nat) : Int)) (hn : n < rd) (hst : th.st = 0) (hg : g ≠ .busy t) (hb : b = []) : OLoc g m e5 e2 t rd th b := by
  refine ⟨n + 1, 0, by rw [hpc]; omega, ?_⟩
  rcases Nat.lt_or_ge (n + 1) rd with c | c
  · exact .inl ⟨c, by decide, .inl hst, hg, hb⟩
  · exact .inr ⟨by omega, rfl, .inl hst, hg, hb⟩
theorem OLoc.own17 {m : Int} {u rd : Nat} {th : Th} {b : List Ent} (h : OLoc (.busy u) m e5 e2 u rd th b) : (m = 0 ∨ m = (u : Int) + 1) ∧ ∀ x l, b = x :: l → (S1 m u b ∨ S2 m u b) := by
  obtain ⟨n, o, _, h | h⟩ := h
  · have hA := h.2.2.2
    have h1 : S1 m u b → (m = 0 ∨ m = (u : Int) + 1) ∧ ∀ x l, b = x :: l → (S1 m u b ∨ S2 m u b) := fun q => ⟨q.elim (fun q => .inl q.2) (fun q => .inr q.2), fun _ _ _ => .inl q⟩
    have h2 : S2 m u b → (m = 0 ∨ m = (u : Int) + 1) ∧ ∀ x l, b = x :: l → (S1 m u b ∨ S2 m u b) := fun q => ⟨q.elim (fun q => .inl q.2) (fun q => q.elim (fun q => .inr q.2) (fun q => .inl q.2)), fun _ _ _ => .inr q⟩
    have h3 : m = 0 → b = [] → (m = 0 ∨ m = (u : Int) + 1) ∧ ∀ x l, b = x :: l → (S1 m u b ∨ S2 m u b) := fun q1 q2 => ⟨.inl q1, fun x l e => by rw [q2] at e; cases e⟩
    have no : ∀ {p : Prop}, (Ph.busy u ≠ Ph.busy u) → p := fun q => absurd rfl q
    unfold oA at hA
    split at hA
    all_goals first
      | exact hA.elim
      | exact no hA.1
      | exact h1 hA.2.1
      | exact h2 hA.2.1
      | exact h3 hA.2.2.2.1 hA.2.1
      | exact hA.elim (fun q => no q.1) (fun q => h3 q.2.2.2.2.1 q.2.1)
      | exact hA.elim (fun q => no q.1) (fun q => h1 q.2.1)
  · exact absurd rfl h.2.2.2.1
theorem OnceI.own17 {u : Nat} (H : OnceI nt rd v (.busy u) e5 e2) : v.mem 17 = 0 ∨ v.mem 17 = (u : Int) + 1 := ((H.loc u H.sh.2).own17).1
theorem OnceI.who (H : OnceI nt rd v g e5 e2) (ht : t < nt) : (0 : Int) ≤ (t : Int) ∧ (t : Int) < 8 := by have := H.n8; omega
theorem updR_at (r : Nat → Int) (a : Nat) (x : Int) : updR r a x a = x := if_pos rfl
theorem updR_ot (r : Nat → Int) (a : Nat) (x : Int) (k : Nat) (h : k ≠ a) : updR r a x k = r k := if_neg h
theorem OnceI.two (H : OnceI nt rd v g e5 e2) (h2 : v.mem 16 = 2) : e2 = 1 := by
  cases g with
  | free => have := H.sh.1; omega
  | busy u => have := H.sh.1; omega
  | over => exact H.sh.2.2.2
theorem OnceI.zero (H : OnceI nt rd v g e5 e2) (h2 : v.mem 16 = 0) : g = .free := by
  cases g with
  | free => rfl
  | busy u => have := H.sh.1; omega
  | over => have := H.sh.1; omega
theorem OnceI.note (H : OnceI nt rd v g e5 e2) (ht : t < nt) {th : Th} {b : List Ent} {l : List Evt} (hloc : OLoc g (v.mem 17) e5 e2 t (rd t) th b) (h5 : cntE (isMV 1 5) (v.evs ++ l) = e5) (h2 : cntE (isM 2) (v.evs ++ l) = e2) (ev : okE (v.evs ++ l)) : OnceI nt rd (v.mv t th b v.mem l) g e5 e2 := by
  refine ⟨H.n8, H.sh, fun u hu => ?_, h5, h2, ev⟩
  by_cases c : u = t
  · subst c
    show OLoc g (v.mem 17) e5 e2 u (rd u) (upd v.th u th u) (upd v.bf u b u)
    rw [upd_same, upd_same]; exact hloc
  · show OLoc g (v.mem 17) e5 e2 u (rd u) (upd v.th t th u) (upd v.bf t b u)
    rw [upd_ne _ _ _ c, upd_ne _ _ _ c]; exact H.loc u hu
theorem OLoc.bufs {m : Int} {rd : Nat} {th : Th} {b : List Ent} (h : OLoc g m e5 e2 t rd th b) (hg : g ≠ .busy t) : b = [] := by
  obtain ⟨n, o, _, h | h⟩ := h
  · have hA := h.2.2.2
    unfold oA at hA
    split at hA
    all_goals first
      | exact hA.elim
      | exact hA.2.1
      | exact absurd hA.1 hg
      | exact hA.elim (fun q => q.2.1) (fun q => absurd q.1 hg)
      | exact hA.2
  · exact h.2.2.2.2
theorem OLoc.flush {m m' : Int} {rd : Nat} {th : Th} {b b' : List Ent} (h : OLoc g m e5 e2 t rd th b) (hb : b ≠ []) (h1 : S1 m t b → S1 m' t b') (h2 : S2 m t b → S2 m' t b') : OLoc g m' e5 e2 t rd th b' := by
  obtain ⟨n, o, hp, h | h⟩ := h
  · refine ⟨n, o, hp, .inl ⟨h.1, h.2.1, h.2.2.1, ?_⟩⟩
    have hA := h.2.2.2
    unfold oA at hA ⊢
    split at hA
    all_goals first
      | exact hA.elim
      | exact absurd hA.2.1 hb
      | exact ⟨hA.1, h1 hA.2.1, hA.2.2⟩
      | exact ⟨hA.1, h2 hA.2.1, hA.2.2⟩
      | exact absurd hA.2 hb
      | exact hA.elim (fun q => absurd q.2.1 hb) (fun q => absurd q.2.1 hb)
      | exact hA.elim (fun q => absurd q.2.1 hb) (fun q => .inr ⟨q.1, h1 q.2.1, q.2.2⟩)
  · exact absurd h.2.2.2.2 hb
theorem OnceI.flush (H : OnceI nt rd v g e5 e2) (ht : t < nt) (hb : v.bf t ≠ []) : OnceI nt rd (flushV t v) g e5 e2 := by
  have hg : g = .busy t := Classical.byContradiction fun q => hb ((H.loc t ht).bufs q)
  subst hg
  have hs := H.sh
  have hl := H.loc t ht
  have hS := hl.own17.2
  unfold flushV
  cases hc : v.bf t with
  | nil => exact absurd hc hb
  | cons x l =>
    have hS' := hS x l hc
    rw [hc] at hS' hl
    have hx : x.1 = 17 := by
      rcases hS' with (⟨q, _⟩ | ⟨q, _⟩) | (⟨q, _⟩ | ⟨q, _⟩ | ⟨q, _⟩) <;> cases q <;> rfl
    have K : OLoc (.busy t) x.2 e5 e2 t (rd t) (v.th t) l := by
      refine hl.flush (by simp) (fun q => ?_) (fun q => ?_)
      · rcases q with ⟨q, _⟩ | ⟨q, _⟩
        · injection q with q1 q2; rw [q1, q2]; exact .inr ⟨rfl, rfl⟩
        · cases q
      · rcases q with ⟨q, _⟩ | ⟨q, _⟩ | ⟨q, _⟩
        · injection q with q1 q2; rw [q1, q2]; exact .inr (.inl ⟨rfl, rfl⟩)
        · injection q with q1 q2; rw [q1, q2]; exact .inr (.inr ⟨rfl, rfl⟩)
        · cases q
    have e1 : (x.1.toNat) = 17 := by rw [hx]; rfl
    have nu : ∀ y ∈ [(⟨3, (t : Int), 0, x.1, x.2, 0, 0, false⟩ : Evt)], nuE y := fun y hy => nu_kind (by rw [List.mem_singleton.1 hy]; exact (by decide : (3 : Int) ≠ 7))
    refine ⟨H.n8, ?_, fun u hu => ?_, ?_, ?_, okE_quiet H.ev nu⟩
    · show upd v.mem x.1.toNat x.2 16 = 1 ∧ t < nt
      rw [e1, upd_ne _ _ _ (by decide)]; exact hs
    · show OLoc _ (upd v.mem x.1.toNat x.2 17) _ _ _ _ (v.th u) (upd v.bf t l u)
      rw [e1, upd_same]
      by_cases c : u = t
      · subst c; rw [upd_same]; exact K
      · rw [upd_ne _ _ _ c]; exact (H.loc u hu).other (by simp [Ne.symm c]) (by simp [Ne.symm c]) id
    · exact (cntE_quiet (fun y hy => isMV_no (by decide) (nu y hy))).trans H.h5
    · exact (cntE_quiet (fun y hy => isM_no (by decide) (nu y hy))).trans H.h2
end
end Go.Proofs.YtmhfpjnkjlhbpaaGreatDoor
namespace Go.Proofs.YtmhfpjnkjlhbpaaGreatDoor
open Go.ChangeShapes Go.WideShapes Go.ChangeAt Go.RowKit Go.Deep
set_option linter.unusedVariables false
set_option maxRecDepth 100000
set_option linter.unusedSimpArgs false

theorem Th.parts {th : Th} {p : Int} {st : Int} (h1 : th.pc = p) (h2 : th.st = st) : th = ⟨p, th.regs, st⟩ := by rw [← h1, ← h2]
end Go.Proofs.YtmhfpjnkjlhbpaaGreatDoor
namespace Go.Proofs.YtmhfpjnkjlhbpaaGreatDoor
open Go.ChangeShapes Go.WideShapes Go.ChangeAt Go.RowKit Go.Deep
set_option linter.unusedVariables false
set_option maxRecDepth 100000
set_option linter.unusedSimpArgs false

/-! ### sums over the first threads -/
def sumT (W : Nat) (f : Nat → Nat) : Nat := ((List.range W).map f).sum
theorem sumT_succ (W : Nat) (f : Nat → Nat) : sumT (W + 1) f = sumT W f + f W := by unfold sumT; rw [List.range_succ, List.map_append, List.sum_append]; simp
theorem sumT_congr {W : Nat} {f g : Nat → Nat} (h : ∀ t, t < W → f t = g t) : sumT W f = sumT W g := by
  induction W with
  | zero => rfl
  | succ W ih => rw [sumT_succ, sumT_succ, ih (fun t ht => h t (by omega)), h W (by omega)]
theorem sumT_upd {W t : Nat} {f g : Nat → Nat} (ht : t < W) (h : ∀ u, u < W → u ≠ t → g u = f u) : sumT W g + f t = sumT W f + g t := by
  induction W with
  | zero => omega
  | succ W ih =>
    rw [sumT_succ, sumT_succ]
    by_cases c : t = W
    · subst c
      have : sumT t g = sumT t f := sumT_congr (fun u hu => h u (by omega) (by omega))
      omega
    · have := ih (by omega) (fun u hu => h u (by omega))
      have := h W (by omega) (fun e => c e.symm)
      omega
theorem sumT_le {W : Nat} {f : Nat → Nat} {k : Nat} (h : ∀ t, t < W → f t ≤ k) : sumT W f ≤ W * k := by
  induction W with
  | zero => simp [sumT]
  | succ W ih =>
    rw [sumT_succ, Nat.add_mul]
    have := ih (fun t ht => h t (by omega))
    have := h W (by omega)
    omega
/-! ### the code of a round, placed at q -/
def barL (N : Nat) (q : Nat) : List Op := [.mark 18, .load 5 17, .set 4 1, .fetch 4 16, .set 6 ((N : Int) - 1), .same 6 4 6, .zero 6 (q + 14), .set 4 0, .store 4 16, .set 4 1, .fetch 4 17, .set 4 4294967295, .wake 4 17, .jump (q + 20), .load 4 17, .same 6 4 5, .zero 6 (q + 20), .move 4 5, .wait 4 17, .jump (q + 14), .set 7 0, .mark 19]
def bA (N P : Nat) (la : Option Nat) (m : Int) (t k : Nat) (r : Nat → Int) (b : List Ent) : Nat → Prop
  | 0 => la ≠ some t ∧ b = [] ∧ P = k
  | 1 => la ≠ some t ∧ b = [] ∧ P = k
  | 2 => la ≠ some t ∧ b = [] ∧ P = k ∧ r 5 = (k : Int)
  | 3 => la ≠ some t ∧ b = [] ∧ P = k ∧ r 5 = (k : Int) ∧ r 4 = 1
  | 4 => (la ≠ some t ∧ b = [] ∧ (P = k ∨ P = k + 1) ∧ r 5 = (k : Int) ∧ r 4 ≠ ((N : Int) - 1)) ∨ (la = some t ∧ b = [] ∧ P = k ∧ m = (N : Int) ∧ r 4 = ((N : Int) - 1))
  | 5 => (la ≠ some t ∧ b = [] ∧ (P = k ∨ P = k + 1) ∧ r 5 = (k : Int) ∧ r 4 ≠ ((N : Int) - 1) ∧ r 6 = ((N : Int) - 1)) ∨ (la = some t ∧ b = [] ∧ P = k ∧ m = (N : Int) ∧ r 4 = ((N : Int) - 1) ∧ r 6 = ((N : Int) - 1))
  | 6 => (la ≠ some t ∧ b = [] ∧ (P = k ∨ P = k + 1) ∧ r 5 = (k : Int) ∧ r 6 = 0) ∨ (la = some t ∧ b = [] ∧ P = k ∧ m = (N : Int) ∧ r 6 = 1)
  | 7 => la = some t ∧ b = [] ∧ P = k ∧ m = (N : Int)
  | 8 => la = some t ∧ b = [] ∧ P = k ∧ m = (N : Int) ∧ r 4 = 0
  | 9 => la = some t ∧ ((b = [(16, 0)] ∧ m = (N : Int)) ∨ (b = [] ∧ m = 0)) ∧ P = k
  | 10 => la = some t ∧ ((b = [(16, 0)] ∧ m = (N : Int)) ∨ (b = [] ∧ m = 0)) ∧ P = k ∧ r 4 = 1
  | 11 => la ≠ some t ∧ b = [] ∧ P = k + 1
  | 12 => la ≠ some t ∧ b = [] ∧ P = k + 1
  | 13 => la ≠ some t ∧ b = [] ∧ P = k + 1
  | 14 => la ≠ some t ∧ b = [] ∧ (P = k ∨ P = k + 1) ∧ r 5 = (k : Int)
  | 15 => la ≠ some t ∧ b = [] ∧ (P = k ∨ P = k + 1) ∧ r 5 = (k : Int) ∧ (r 4 ≠ (k : Int) → P = k + 1)
  | 16 => la ≠ some t ∧ b = [] ∧ (P = k ∨ P = k + 1) ∧ r 5 = (k : Int) ∧ (r 6 = 0 → P = k + 1)
  | 17 => la ≠ some t ∧ b = [] ∧ (P = k ∨ P = k + 1) ∧ r 5 = (k : Int)
  | 18 => la ≠ some t ∧ b = [] ∧ (P = k ∨ P = k + 1) ∧ r 5 = (k : Int) ∧ r 4 = (k : Int)
  | 19 => la ≠ some t ∧ b = [] ∧ (P = k ∨ P = k + 1) ∧ r 5 = (k : Int)
  | 20 => la ≠ some t ∧ b = [] ∧ P = k + 1
  | 21 => la ≠ some t ∧ b = [] ∧ P = k + 1 ∧ r 7 = 0
  | _ => False
def BLoc (N rd P : Nat) (la : Option Nat) (m : Int) (t : Nat) (th : Th) (b : List Ent) : Prop :=
  ∃ k o, th.pc = ((k * 22 + o : Nat) : Int) ∧ ((k < rd ∧ o < 22 ∧ (th.st = 0 ∨ th.st = 1) ∧ bA N P la m t k th.regs b o) ∨ (k = rd ∧ o = 0 ∧ (th.st = 0 ∨ th.st = 2) ∧ P = k ∧ la ≠ some t ∧ b = []))
def arr (P : Nat) (th : Th) : Nat := if ((P * 22 + 4 : Nat) : Int) ≤ th.pc ∧ th.pc < ((P * 22 + 22 : Nat) : Int) then 1 else 0
theorem arrP_at {P k o : Nat} {th : Th} (h : th.pc = ((k * 22 + o : Nat) : Int)) (ho : o < 22) : arr P th = if k = P ∧ 4 ≤ o then 1 else 0 := by
  unfold arr
  rw [h]
  by_cases c : k = P ∧ 4 ≤ o
  · rw [if_pos c, if_pos (by obtain ⟨rfl, h4⟩ := c; omega)]
  · rw [if_neg c, if_neg (fun q => c (by omega))]
def isMW (k : Int) (t : Nat) (x : Evt) : Bool := x.kind == 7 && x.k == k && x.who == (t : Int)
def knocks (th : Th) : Nat := (th.pc.toNat + 21) / 22
theorem knocks_at {k o : Nat} {th : Th} (h : th.pc = ((k * 22 + o : Nat) : Int)) (ho : o < 22) : knocks th = k + (if 1 ≤ o then 1 else 0) := by
  unfold knocks
  rw [h, Int.toNat_natCast]
  split <;> omega
def okBr (N : Nat) (l : List Evt) : Prop := ∀ (i : Nat) (x : Evt), l[i]? = some x → x.kind = 7 → 0 ≤ x.who ∧ x.who < (N : Int) ∧ (x.k = 18 ∨ x.k = 19) ∧ (x.k = 19 → x.value = 0 ∧ ∀ u, u < N → cntE (isMW 18 x.who.toNat) (l.take i) ≤ cntE (isMW 18 u) (l.take i))
theorem okBr_snoc {N : Nat} {l : List Evt} (h : okBr N l) (x : Evt) (hx : x.kind = 7 → 0 ≤ x.who ∧ x.who < (N : Int) ∧ (x.k = 18 ∨ x.k = 19) ∧ (x.k = 19 → x.value = 0 ∧ ∀ u, u < N → cntE (isMW 18 x.who.toNat) l ≤ cntE (isMW 18 u) l)) : okBr N (l ++ [x]) := fun i y hy hk => by
  rcases Nat.lt_or_ge i l.length with c | c
  · rw [List.getElem?_append_left c] at hy
    rw [List.take_append_of_le_length (by omega)]
    exact h i y hy hk
  · rw [List.getElem?_append_right c] at hy
    have hi : i - l.length = 0 := by
      have := (List.getElem?_eq_some_iff.1 hy).1
      simpa using this
    rw [hi] at hy
    obtain rfl : x = y := by simpa using hy
    have e : i = l.length := by omega
    rw [e, List.take_left' rfl]
    exact hx hk
def nuK (x : Evt) : Prop := x.kind ≠ 7
theorem okBr_quiet {N : Nat} {l m : List Evt} (h : okBr N l) (hm : ∀ x ∈ m, nuK x) : okBr N (l ++ m) := by
  induction m generalizing l with
  | nil => rw [List.append_nil]; exact h
  | cons x m ih =>
    rw [show l ++ x :: m = (l ++ [x]) ++ m by simp]
    exact ih (okBr_snoc h x (fun q => absurd q (hm x (by simp)))) (fun y hy => hm y (by simp [hy]))
theorem isMW_no {k : Int} {t : Nat} {x : Evt} (h : nuK x) : isMW k t x = false := by unfold isMW; unfold nuK at h; simp [h]
structure BarI (nt N rd : Nat) (v : Vw) (P : Nat) (la : Option Nat) : Prop where
  n1 : 1 ≤ N ∧ N ≤ 8 ∧ N ≤ nt ∧ rd ≤ 100
  hP : P ≤ rd
  m17 : v.mem 17 = (P : Int)
  loc : ∀ t, t < N → BLoc N rd P la (v.mem 16) t (v.th t) (v.bf t)
  out : ∀ t, N ≤ t → t < nt → (v.th t).pc = 0 ∧ ((v.th t).st = 0 ∨ (v.th t).st = 2) ∧ v.bf t = []
  none_ : la = none → v.mem 16 = ((sumT N fun t => arr P (v.th t) : Nat) : Int) ∧ (sumT N fun t => arr P (v.th t)) < N
  some_ : ∀ u, la = some u → u < N ∧ ∀ t, t < N → arr P (v.th t) = 1
  k18 : ∀ t, t < N → cntE (isMW 18 t) v.evs = knocks (v.th t)
  ev : okBr N v.evs
section
variable {nt N rd : Nat} {v : Vw} {P t : Nat} {la : Option Nat}
theorem bA_other {P : Nat} {la la' : Option Nat} {m m' : Int} {k : Nat} {r : Nat → Int} {b : List Ent} {o : Nat} (h : bA N P la m t k r b o) (hg : la ≠ some t) (hg' : la' ≠ some t) : bA N P la' m' t k r b o := by
  unfold bA at h ⊢
  split at h
  all_goals first
    | exact h.elim
    | exact ⟨hg', h.2⟩
    | exact absurd h.1 hg
    | exact .inl (h.elim (fun q => ⟨hg', q.2⟩) (fun q => absurd q.1 hg))
theorem BLoc.other {la la' : Option Nat} {m m' : Int} {th : Th} {b : List Ent} (h : BLoc N rd P la m t th b) (hg : la ≠ some t) (hg' : la' ≠ some t) : BLoc N rd P la' m' t th b := by
  obtain ⟨k, o, h1, h2⟩ := h
  exact ⟨k, o, h1, h2.imp (fun q => ⟨q.1, q.2.1, q.2.2.1, bA_other q.2.2.2 hg hg'⟩) (fun q => ⟨q.1, q.2.1, q.2.2.1, q.2.2.2.1, hg', q.2.2.2.2.2⟩)⟩
theorem BarI.move (H : BarI nt N rd v P la) (ht : t < N) {th : Th} {b : List Ent} {l : List Evt} (ha : arr P th = arr P (v.th t)) (hk : ∀ u, u < N → cntE (isMW 18 u) (v.evs ++ l) = if u = t then knocks th else knocks (v.th u)) (he : okBr N (v.evs ++ l)) (hloc : BLoc N rd P la (v.mem 16) t th b) : BarI nt N rd (v.mv t th b v.mem l) P la := by
  have hs : ∀ u, arr P (upd v.th t th u) = arr P (v.th u) := fun u => by
    by_cases c : u = t
    · subst c; rw [upd_same]; exact ha
    · rw [upd_ne _ _ _ c]
  refine ⟨H.n1, H.hP, H.m17, fun u hu => ?_, fun u h1 h2 => ?_, fun h => ?_, fun u h => ⟨(H.some_ u h).1, fun w hw => (hs w).trans ((H.some_ u h).2 w hw)⟩, fun u hu => ?_, he⟩
  · by_cases c : u = t
    · subst c
      show BLoc N rd P la (v.mem 16) u (upd v.th u th u) (upd v.bf u b u)
      rw [upd_same, upd_same]; exact hloc
    · show BLoc N rd P la (v.mem 16) u (upd v.th t th u) (upd v.bf t b u)
      rw [upd_ne _ _ _ c, upd_ne _ _ _ c]; exact H.loc u hu
  · show (upd v.th t th u).pc = 0 ∧ ((upd v.th t th u).st = 0 ∨ (upd v.th t th u).st = 2) ∧ upd v.bf t b u = []
    rw [upd_ne _ _ _ (by omega), upd_ne _ _ _ (by omega)]; exact H.out u h1 h2
  · have e : (sumT N fun u => arr P (upd v.th t th u)) = sumT N fun u => arr P (v.th u) := sumT_congr (fun u _ => hs u)
    show v.mem 16 = ((sumT N fun u => arr P (upd v.th t th u) : Nat) : Int) ∧ (sumT N fun u => arr P (upd v.th t th u)) < N
    rw [e]; exact H.none_ h
  · show cntE (isMW 18 u) (v.evs ++ l) = knocks (upd v.th t th u)
    rw [hk u hu]
    by_cases c : u = t
    · rw [if_pos c, c, upd_same]
    · rw [if_neg c, upd_ne _ _ _ c]
theorem BarI.quiet (H : BarI nt N rd v P la) (ht : t < N) {th : Th} {b : List Ent} {l : List Evt} (hl : ∀ x ∈ l, nuK x) {k o k' o' : Nat} (hp : (v.th t).pc = ((k * 22 + o : Nat) : Int)) (ho : o < 22) (hp' : th.pc = ((k' * 22 + o' : Nat) : Int)) (ho' : o' < 22) (hpos : (k' = k ∧ (4 ≤ o ↔ 4 ≤ o') ∧ (1 ≤ o ↔ 1 ≤ o'))) (hloc : BLoc N rd P la (v.mem 16) t th b) : BarI nt N rd (v.mv t th b v.mem l) P la := by
  obtain ⟨rfl, h4, h1⟩ := hpos
  have ek : knocks th = knocks (v.th t) := by rw [knocks_at hp ho, knocks_at hp' ho']; simp only [h1]
  refine H.move ht ?_ (fun u hu => ?_) (okBr_quiet H.ev hl) hloc
  · rw [arrP_at hp ho, arrP_at hp' ho']; simp only [h4]
  · rw [cntE_quiet (fun x hx => isMW_no (hl x hx)), H.k18 u hu]
    split
    · rename_i c; rw [c, ek]
    · rfl
theorem BarI.slp (H : BarI nt N rd v P la) (l : List Slp) : BarI nt N rd { v with slp := l } P la := ⟨H.n1, H.hP, H.m17, H.loc, H.out, H.none_, H.some_, H.k18, H.ev⟩
theorem BLoc.run {m : Int} {th : Th} {b : List Ent} (h : BLoc N rd P la m t th b) : BLoc N rd P la m t ⟨th.pc, th.regs, 0⟩ b := by
  obtain ⟨k, o, h1, h2⟩ := h
  exact ⟨k, o, h1, h2.imp (fun q => ⟨q.1, q.2.1, .inl rfl, q.2.2.2⟩) (fun q => ⟨q.1, q.2.1, .inl rfl, q.2.2.2⟩)⟩
theorem BarI.run (H : BarI nt N rd v P la) (ws : List Int) : BarI nt N rd { v with th := runV ws v.th } P la := by
  have hpc : ∀ u, (runV ws v.th u).pc = (v.th u).pc := fun u => by unfold runV; split <;> rfl
  have ha : ∀ u, arr P (runV ws v.th u) = arr P (v.th u) := fun u => by unfold arr; rw [hpc]
  have hk : ∀ u, knocks (runV ws v.th u) = knocks (v.th u) := fun u => by unfold knocks; rw [hpc]
  refine ⟨H.n1, H.hP, H.m17, fun u hu => ?_, fun u h1 h2 => ?_, fun h => ?_, fun u h => ⟨(H.some_ u h).1, fun w hw => (ha w).trans ((H.some_ u h).2 w hw)⟩, fun u hu => (H.k18 u hu).trans (hk u).symm, H.ev⟩
  · show BLoc N rd P la (v.mem 16) u (if (u : Int) ∈ ws then { v.th u with st := 0 } else v.th u) (v.bf u)
    split
    · exact (H.loc u hu).run
    · exact H.loc u hu
  · refine ⟨(hpc u).trans (H.out u h1 h2).1, ?_, (H.out u h1 h2).2.2⟩
    show (runV ws v.th u).st = 0 ∨ (runV ws v.th u).st = 2
    unfold runV
    split
    · exact .inl rfl
    · exact (H.out u h1 h2).2.1
  · have e : (sumT N fun u => arr P (runV ws v.th u)) = sumT N fun u => arr P (v.th u) := sumT_congr (fun u _ => ha u)
    show v.mem 16 = ((sumT N fun u => arr P (runV ws v.th u) : Nat) : Int) ∧ (sumT N fun u => arr P (runV ws v.th u)) < N
    rw [e]; exact H.none_ h
theorem BLoc.next {m : Int} {k : Nat} {th : Th} {b : List Ent} (hpc : th.pc = ((k * 22 + 22 : Nat) : Int)) (hn : k < rd) (hst : th.st = 0) (hg : la ≠ some t) (hb : b = []) (hP : P = k + 1) : BLoc N rd P la m t th b := by
  refine ⟨k + 1, 0, by rw [hpc]; omega, ?_⟩
  rcases Nat.lt_or_ge (k + 1) rd with c | c
  · exact .inl ⟨c, by decide, .inl hst, hg, hb, hP⟩
  · exact .inr ⟨by omega, rfl, .inl hst, hP, hg, hb⟩
theorem BLoc.buf {m : Int} {th : Th} {b : List Ent} (h : BLoc N rd P la m t th b) (hb : b ≠ []) : la = some t ∧ b = [(16, 0)] ∧ BLoc N rd P la 0 t th [] := by
  obtain ⟨k, o, hp, h | h⟩ := h
  · have hA := h.2.2.2
    have mk : bA N P la 0 t k th.regs [] o → BLoc N rd P la 0 t th [] := fun q => ⟨k, o, hp, .inl ⟨h.1, h.2.1, h.2.2.1, q⟩⟩
    unfold bA at hA mk
    split at hA
    all_goals first
      | exact hA.elim
      | exact absurd hA.2.1 hb
      | exact absurd hA.2 hb
      | exact hA.elim (fun q => absurd q.2.1 hb) (fun q => absurd q.2.1 hb)
      | exact ⟨hA.1, hA.2.1.elim (fun q => q.1) (fun q => absurd q.1 hb), mk ⟨hA.1, .inr ⟨rfl, rfl⟩, hA.2.2⟩⟩
  · exact absurd h.2.2.2.2.2 hb
theorem BarI.flush (H : BarI nt N rd v P la) (ht : t < nt) (hb : v.bf t ≠ []) : BarI nt N rd (flushV t v) P la := by
  have htN : t < N := by
    rcases Nat.lt_or_ge t N with c | c
    · exact c
    · exact absurd (H.out t c ht).2.2 hb
  obtain ⟨h1, h2, h3⟩ := (H.loc t htN).buf hb
  unfold flushV
  rw [h2]
  have nu : ∀ y ∈ [(⟨3, (t : Int), 0, 16, 0, 0, 0, false⟩ : Evt)], nuK y := fun y hy => by rw [List.mem_singleton.1 hy]; exact (by decide : (3 : Int) ≠ 7)
  refine ⟨H.n1, H.hP, ?_, fun u hu => ?_, fun u q1 q2 => ?_, (fun q => by rw [h1] at q; cases q), H.some_, fun u hu => ?_, okBr_quiet H.ev nu⟩
  · show upd v.mem 16 0 17 = _
    rw [upd_ne _ _ _ (by decide)]; exact H.m17
  · show BLoc N rd P la (upd v.mem 16 0 16) u (v.th u) (upd v.bf t [] u)
    rw [upd_same]
    by_cases c : u = t
    · subst c; rw [upd_same]; exact h3
    · rw [upd_ne _ _ _ c]
      have hu' : la ≠ some u := by rw [h1]; simp [Ne.symm c]
      exact (H.loc u hu).other hu' hu'
  · refine ⟨(H.out u q1 q2).1, (H.out u q1 q2).2.1, ?_⟩
    show upd v.bf t [] u = []
    rw [upd_ne _ _ _ (by omega)]; exact (H.out u q1 q2).2.2
  · exact (cntE_quiet (fun y hy => isMW_no (nu y hy))).trans (H.k18 u hu)
end
end Go.Proofs.YtmhfpjnkjlhbpaaGreatDoor
