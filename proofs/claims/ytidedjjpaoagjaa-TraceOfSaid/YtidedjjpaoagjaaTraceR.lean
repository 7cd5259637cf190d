/- The document's calls, one by one, as lists: each thread's are what goes through its events gathers. -/
import Derived.Test.YtidedjjpaoagjaaTraceCl
namespace Go.Proofs.Ytidedjjpaoagjaa
open Go.ChangeShapes Go.WideShapes Go.ChangeAt Go.RowKit Go.Deep
set_option linter.unusedVariables false
set_option linter.unusedSimpArgs false

/-- What an event makes of a call that began ahead of it; the flag: it goes on. -/
def ostep (s : Cl × Bool) (x : Nat × Ev) : Cl × Bool :=
  if s.2 = false then s else if x.2.who ≠ s.1.who then s
  else if x.2.kind ≠ 7 then (if x.2.kind ≠ 3 then ({ s.1 with inner := s.1.inner ++ [(x.1 : Int)] }, true) else s)
  else if x.2.k % 2 = 0 then (s.1, false)
  else if x.2.k / 2 = s.1.site then ({ s.1 with ended := (x.1 : Int), result := x.2.value }, false) else s
def newC (E : Nat → Ev) (i : Nat) : Cl := ⟨(E i).k / 2, (E i).who, (i : Int), -1, 0, []⟩
def begB (E : Nat → Ev) (i : Nat) : Bool := (E i).kind == 7 && (E i).k % 2 == 0
/-- The events from a place on, n of them. -/
def evFrom (E : Nat → Ev) (i n : Nat) : List (Nat × Ev) := (List.range n).map fun k => (i + k, E (i + k))
theorem evFrom_succ (E : Nat → Ev) (i n : Nat) : evFrom E i (n + 1) = evFrom E i n ++ [(i + n, E (i + n))] := by
  unfold evFrom
  rw [List.range_succ, List.map_append]
  rfl
/-- The call that begins at i, seen by the first len events. -/
def oneS (E : Nat → Ev) (len i : Nat) : Cl × Bool := (evFrom E (i + 1) (len - (i + 1))).foldl ostep (newC E i, true)
theorem oneS_new (E : Nat → Ev) (i : Nat) : oneS E (i + 1) i = (newC E i, true) := by
  unfold oneS
  rw [Nat.sub_self]
  rfl
theorem oneS_succ (E : Nat → Ev) (len i : Nat) (h : i < len) : oneS E (len + 1) i = ostep (oneS E len i) (len, E len) := by
  unfold oneS
  rw [show len + 1 - (i + 1) = (len - (i + 1)) + 1 by omega, evFrom_succ, List.foldl_append]
  rw [show i + 1 + (len - (i + 1)) = len by omega]
  rfl
/-- A thread's calls, with whether they go on. -/
def rs (E : Nat → Ev) (t : Int) (len : Nat) : List (Cl × Bool) := ((List.range len).filter fun i => begB E i && (E i).who == t).map (oneS E len)
/-- All calls. -/
def allC (E : Nat → Ev) (len : Nat) : List Cl := ((List.range len).filter fun i => begB E i && (decide (0 ≤ (E i).who) && decide ((E i).who < 8))).map fun i => (oneS E len i).1

theorem ostep_who (s : Cl × Bool) (x : Nat × Ev) : (ostep s x).1.who = s.1.who ∧ (ostep s x).1.began = s.1.began ∧ (ostep s x).1.site = s.1.site := by
  unfold ostep
  repeat' split
  all_goals exact ⟨rfl, rfl, rfl⟩
theorem fold_who (l : List (Nat × Ev)) : ∀ s : Cl × Bool, (l.foldl ostep s).1.who = s.1.who ∧ (l.foldl ostep s).1.began = s.1.began ∧ (l.foldl ostep s).1.site = s.1.site := by
  induction l with
  | nil => intro s; exact ⟨rfl, rfl, rfl⟩
  | cons x l ih =>
    intro s
    obtain ⟨a, b, c⟩ := ih (ostep s x)
    obtain ⟨a', b', c'⟩ := ostep_who s x
    exact ⟨a.trans a', b.trans b', c.trans c'⟩
theorem oneS_who (E : Nat → Ev) (len i : Nat) : (oneS E len i).1.who = (E i).who ∧ (oneS E len i).1.began = i ∧ (oneS E len i).1.site = (E i).k / 2 := fold_who _ _

theorem rs_succ (E : Nat → Ev) (t : Int) (len : Nat) : rs E t (len + 1) = (rs E t len).map (fun s => ostep s (len, E len)) ++ (if begB E len && (E len).who == t then [(newC E len, true)] else []) := by
  unfold rs
  rw [List.range_succ, List.filter_append, List.map_append, List.map_map]
  congr 1
  · apply List.map_congr_left
    intro i hi
    have := List.mem_range.1 (List.mem_filter.1 hi).1
    exact oneS_succ E len i this
  · by_cases h : (begB E len && (E len).who == t) = true
    · rw [if_pos h, List.filter_cons_of_pos (p := fun i => begB E i && (E i).who == t) h]
      simp [oneS_new]
    · rw [if_neg h, List.filter_cons_of_neg (p := fun i => begB E i && (E i).who == t) h]
      rfl

/-- Only the last may go on. -/
def OnlyLast (l : List (Cl × Bool)) : Prop := ∀ a s b, l = a ++ s :: b → b ≠ [] → s.2 = false
theorem onlyLast_snoc {a : List (Cl × Bool)} {s : Cl × Bool} (h : ∀ x ∈ a, x.2 = false) : OnlyLast (a ++ [s]) := by
  intro u x v e hv
  have hx : x ∈ a := by
    rcases List.eq_nil_or_concat v with rfl | ⟨v', y, rfl⟩
    · exact absurd rfl hv
    · rw [List.concat_eq_append, ← List.cons_append, ← List.append_assoc] at e
      have := (List.append_inj' e rfl).1
      rw [this]
      simp
  exact h x hx
theorem ostep_off {s : Cl × Bool} (h : s.2 = false) (x : Nat × Ev) : ostep s x = s := by
  unfold ostep
  rw [if_pos h]
theorem ostep_other {s : Cl × Bool} {x : Nat × Ev} (h : x.2.who ≠ s.1.who) : ostep s x = s := by
  unfold ostep
  by_cases h1 : s.2 = false
  · rw [if_pos h1]
  · rw [if_neg h1, if_pos h]

/-- What is gathered while a thread's events are gone through are its calls. -/
theorem gathered (E : Nat → Ev) (t : Int) : ∀ len, (callsF t (evs E t len)).1 = (rs E t len).map (·.1) ∧
    (callsF t (evs E t len)).2 = ((rs E t len).getLast?.map (·.2)).getD false ∧ (∀ s ∈ (rs E t len).dropLast, s.2 = false) ∧ (∀ s ∈ rs E t len, s.1.who = t)
  | 0 => ⟨rfl, rfl, (fun s h => absurd h List.not_mem_nil), (fun s h => absurd h List.not_mem_nil)⟩
  | len + 1 => by
    obtain ⟨h1, h2, h3, h4⟩ := gathered E t len
    rw [rs_succ]
    by_cases hw : (E len).who = t
    · rw [evs_hit hw, callsF_snoc]
      generalize callsF t (evs E t len) = st at h1 h2 ⊢
      obtain ⟨C, o⟩ := st
      dsimp only at h1 h2
      generalize rs E t len = l at h1 h2 h3 h4 ⊢
      subst h1
      subst h2
      by_cases hk : (E len).kind = 7
      · by_cases hev : (E len).k % 2 = 0
        · have hb : (begB E len && (E len).who == t) = true := by simp [begB, hk, hev, hw]
          rw [if_pos hb]
          have hmap : (l.map fun s => ostep s (len, E len)).map (·.1) = l.map (·.1) ∧ ∀ s ∈ l.map (fun s => ostep s (len, E len)), s.2 = false ∧ s.1.who = t := by
            constructor
            · rw [List.map_map]
              apply List.map_congr_left
              intro s hs
              show (ostep s (len, E len)).1 = s.1
              unfold ostep
              dsimp only
              repeat' split
              all_goals first | rfl | (exfalso; omega)
            · intro s hs
              obtain ⟨s', hs', rfl⟩ := List.mem_map.1 hs
              refine ⟨?_, by rw [(ostep_who _ _).1]; exact h4 _ hs'⟩
              unfold ostep
              rw [h4 _ hs']
              dsimp only
              by_cases h0 : s'.2 = false
              · rw [if_pos h0]; exact h0
              · rw [if_neg h0, if_neg (by simp [hw]), if_neg (by simp [hk]), if_pos hev]
          unfold cstep
          dsimp only
          rw [if_neg (by simp [hk]), if_pos hev]
          refine ⟨?_, ?_, fun s hs => ?_, fun s hs => ?_⟩
          · rw [List.map_append, hmap.1]
            simp [newC, hw]
          · simp
          · rw [List.dropLast_concat] at hs
            exact (hmap.2 s hs).1
          · rcases List.mem_append.1 hs with hs | hs
            · exact (hmap.2 s hs).2
            · rw [List.mem_singleton.1 hs]; exact hw
        · have hb : ¬ (begB E len && (E len).who == t) = true := by simp [begB, hev]
          rw [if_neg hb, List.append_nil]
          rcases List.eq_nil_or_concat l with rfl | ⟨a, s, rfl⟩
          · unfold cstep
            dsimp only
            rw [if_neg (by simp [hk]), if_neg hev, if_neg (by simp)]
            exact ⟨rfl, rfl, (fun s h => absurd h List.not_mem_nil), (fun s h => absurd h List.not_mem_nil)⟩
          · rw [List.concat_eq_append] at h3 h4 ⊢
            rw [List.dropLast_concat] at h3
            have ha : a.map (fun s => ostep s (len, E len)) = a := by
              conv => rhs; rw [← List.map_id a]
              exact List.map_congr_left fun x hx => ostep_off (h3 x hx) _
            have hs4 := h4 s (by simp)
            have hb4 : (a ++ [s]).map (fun s => ostep s (len, E len)) = a ++ [ostep s (len, E len)] := by rw [List.map_append, ha]; rfl
            rw [hb4]
            simp only [List.map_append, List.map_cons, List.map_nil, List.getLast?_append, List.getLast?_singleton, Option.some_or, Option.map_some, Option.getD_some, List.dropLast_concat]
            unfold cstep
            dsimp only
            rw [if_neg (by simp [hk]), if_neg hev, lastSite_snoc]
            obtain ⟨c, o⟩ := s
            dsimp only at hs4 ⊢
            cases o
            · rw [if_neg (by simp), ostep_off rfl]
              exact ⟨rfl, rfl, h3, h4⟩
            · by_cases hs : c.site = (E len).k / 2
              · rw [if_pos ⟨rfl, hs⟩, modLast_snoc]
                have : ostep (c, true) (len, E len) = ({ c with ended := (len : Int), result := (E len).value }, false) := by
                  unfold ostep
                  dsimp only
                  rw [if_neg (by simp), if_neg (by simp [hs4, hw]), if_neg (by simp [hk]), if_neg hev, if_pos hs.symm]
                rw [this]
                refine ⟨rfl, rfl, h3, fun x hx => ?_⟩
                rcases List.mem_append.1 hx with hx | hx
                · exact h4 x (List.mem_append_left _ hx)
                · rw [List.mem_singleton.1 hx]; exact hs4
              · rw [if_neg (by simp [hs])]
                have : ostep (c, true) (len, E len) = (c, true) := by
                  unfold ostep
                  dsimp only
                  rw [if_neg (by simp), if_neg (by simp [hs4, hw]), if_neg (by simp [hk]), if_neg hev, if_neg (fun e => hs e.symm)]
                rw [this]
                exact ⟨rfl, rfl, h3, h4⟩
      · have hb : ¬ (begB E len && (E len).who == t) = true := by simp [begB, hk]
        rw [if_neg hb, List.append_nil]
        rcases List.eq_nil_or_concat l with rfl | ⟨a, s, rfl⟩
        · unfold cstep
          dsimp only
          rw [if_pos hk, if_neg (by simp)]
          exact ⟨rfl, rfl, (fun s h => absurd h List.not_mem_nil), (fun s h => absurd h List.not_mem_nil)⟩
        · rw [List.concat_eq_append] at h3 h4 ⊢
          rw [List.dropLast_concat] at h3
          have ha : a.map (fun s => ostep s (len, E len)) = a := by
            conv => rhs; rw [← List.map_id a]
            exact List.map_congr_left fun x hx => ostep_off (h3 x hx) _
          have hs4 := h4 s (by simp)
          have hb4 : (a ++ [s]).map (fun s => ostep s (len, E len)) = a ++ [ostep s (len, E len)] := by rw [List.map_append, ha]; rfl
          rw [hb4]
          simp only [List.map_append, List.map_cons, List.map_nil, List.getLast?_append, List.getLast?_singleton, Option.some_or, Option.map_some, Option.getD_some, List.dropLast_concat]
          unfold cstep
          dsimp only
          rw [if_pos hk]
          obtain ⟨c, o⟩ := s
          dsimp only at hs4 ⊢
          cases o
          · rw [if_neg (by simp), ostep_off rfl]
            exact ⟨rfl, rfl, h3, h4⟩
          · by_cases h3k : (E len).kind = 3
            · rw [if_neg (by simp [h3k])]
              have : ostep (c, true) (len, E len) = (c, true) := by
                unfold ostep
                dsimp only
                rw [if_neg (by simp), if_neg (by simp [hs4, hw]), if_pos hk, if_neg (by simp [h3k])]
              rw [this]
              exact ⟨rfl, rfl, h3, h4⟩
            · rw [if_pos ⟨rfl, h3k⟩, modLast_snoc]
              have : ostep (c, true) (len, E len) = ({ c with inner := c.inner ++ [(len : Int)] }, true) := by
                unfold ostep
                dsimp only
                rw [if_neg (by simp), if_neg (by simp [hs4, hw]), if_pos hk, if_pos h3k]
              rw [this]
              refine ⟨rfl, rfl, h3, fun x hx => ?_⟩
              rcases List.mem_append.1 hx with hx | hx
              · exact h4 x (List.mem_append_left _ hx)
              · rw [List.mem_singleton.1 hx]; exact hs4
    · rw [evs_miss hw]
      have hb : ¬ (begB E len && (E len).who == t) = true := by simp [hw]
      have hl : (rs E t len).map (fun s => ostep s (len, E len)) = rs E t len := by
        conv => rhs; rw [← List.map_id (rs E t len)]
        exact List.map_congr_left fun x hx => ostep_other (by rw [h4 x hx]; exact hw)
      rw [hl, if_neg hb, List.append_nil]
      exact ⟨h1, h2, h3, h4⟩

/-- A thread's calls are those of all that are its own. -/
theorem callsF_all (E : Nat → Ev) (t : Int) (len : Nat) (h0 : 0 ≤ t) (h8 : t < 8) : (callsF t (evs E t len)).1 = (allC E len).filter (fun c => c.who == t) := by
  rw [(gathered E t len).1]
  unfold rs allC
  rw [List.filter_map, List.filter_filter, List.map_map]
  congr 1
  apply List.filter_congr
  intro i hi
  show (begB E i && (E i).who == t) = ((oneS E len i).1.who == t && (begB E i && (decide (0 ≤ (E i).who) && decide ((E i).who < 8))))
  rw [(oneS_who E len i).1]
  by_cases h : (E i).who = t
  · rw [h]
    cases begB E i <;> simp [h0, h8]
  · have : ((E i).who == t) = false := by simpa using h
    rw [this]
    cases begB E i <;> rfl
theorem allC_who (E : Nat → Ev) (len : Nat) : ∀ c ∈ allC E len, 0 ≤ c.who ∧ c.who < 8 := by
  intro c hc
  obtain ⟨i, hi, rfl⟩ := List.mem_map.1 hc
  have := (List.mem_filter.1 hi).2
  simp only [Bool.and_eq_true, decide_eq_true_eq] at this
  rw [(oneS_who E len i).1]
  exact this.2
theorem allC_sorted (E : Nat → Ev) (len : Nat) : (allC E len).Pairwise (fun a b => a.began < b.began) := by
  unfold allC
  rw [List.pairwise_map]
  have h : ((List.range len).filter fun i => begB E i && (decide (0 ≤ (E i).who) && decide ((E i).who < 8))).Pairwise (· < ·) := List.Pairwise.filter _ List.pairwise_lt_range
  exact h.imp fun {a b} hab => by
    rw [(oneS_who E len a).2.1, (oneS_who E len b).2.1]
    omega
theorem allC_len (E : Nat → Ev) (len : Nat) : (allC E len).length ≤ len := by
  unfold allC
  rw [List.length_map]
  have := List.length_filter_le (fun i => begB E i && (decide (0 ≤ (E i).who) && decide ((E i).who < 8))) (List.range len)
  simpa using this
end Go.Proofs.Ytidedjjpaoagjaa
