/- Calls: as rows of cells whose last field is a row of their own; how they come about, event by event. -/
import Derived.Test.YtidedjjpaoagjaaTraceOuts
import Derived.Laws.OwnMore
namespace Go.Proofs.Ytidedjjpaoagjaa
open Go.ChangeShapes Go.WideShapes Go.ChangeAt Go.RowKit Go.Deep
set_option linter.unusedVariables false
set_option linter.unusedSimpArgs false

structure Cl where
  (site who began ended result : Int)
  inner : List Int
instance : Inhabited Cl := ⟨⟨0, 0, 0, 0, 0, []⟩⟩
def Cl.cellsV (c : Cl) (iv : Value) : List Value := [.int .i64 c.site, .int .i64 c.who, .int .i64 c.began, .int .i64 c.ended, .int .u32 c.result, iv]
def clC (C : List Cl) (IV : List Value) : List Value := (C.zip IV).flatMap fun p => p.1.cellsV p.2
theorem clC_snoc (C : List Cl) (IV : List Value) (h : IV.length = C.length) (c : Cl) (iv : Value) : clC (C ++ [c]) (IV ++ [iv]) = clC C IV ++ c.cellsV iv := by
  unfold clC
  rw [List.zip_append h.symm, List.flatMap_append]
  simp
theorem clC_len (C : List Cl) (IV : List Value) (h : IV.length = C.length) : (clC C IV).length = C.length * 6 := by
  unfold clC
  rw [slp_len6 (C.zip IV), List.length_zip, h, Nat.min_self]
where
  slp_len6 : ∀ l : List (Cl × Value), (l.flatMap fun p => p.1.cellsV p.2).length = l.length * 6
    | [] => rfl
    | x :: l => by rw [List.flatMap_cons, List.length_append, slp_len6 l, List.length_cons]; show 6 + _ = _; omega

/-- Calls in memory: the row, and each call's own row of inner events; the last one's lies behind all others'. -/
structure CM (W : World) (base bl : Nat) (v : Value) (C : List Cl) (IV : List Value) : Prop where
  il : IV.length = C.length
  row : W.ownsRow base 39 6 v C.length (clC C IV)
  inn : ∀ j, j < C.length → W.ownsRow base 3 1 (IV.getD j undef) (C.getD j default).inner.length ((C.getD j default).inner.map (Value.int .i64))
  old : ∀ j, j + 1 < C.length → ∀ i, (IV.getD j undef).ownBlock = some i → i < bl
  las : ∀ j, j + 1 = C.length → ∀ i, (IV.getD j undef).ownBlock = some i → bl ≤ i
  b1 : base ≤ bl
  b2 : bl ≤ W.heap.size
section
variable {W W' : World} {base bl : Nat} {v : Value} {C : List Cl} {IV : List Value}
theorem CM.nil (W : World) (base : Nat) (hb : base ≤ W.heap.size) : CM W base base (.slice none 0 0) [] [] :=
  ⟨rfl, ⟨rfl, .inl ⟨rfl, rfl⟩⟩, fun j hj => absurd hj (by simp), fun j hj => absurd hj (by simp), fun j hj => absurd hj (by simp), Nat.le_refl _, hb⟩
theorem CM.below (h : CM W base bl v C IV) (hb : Below W.heap.size W W') : CM W' base bl v C IV :=
  ⟨h.il, own_below h.row (Nat.le_refl _) hb, fun j hj => own_below (h.inn j hj) (Nat.le_refl _) hb, h.old, h.las, h.b1, Nat.le_trans h.b2 hb.size⟩
theorem CM.alloc (h : CM W base bl v C IV) (o : Obj) : CM (W.alloc o) base bl v C IV := h.below ((Below.refl _ _).alloc (Nat.le_refl _) o)
theorem CM.grown {r : Nat} (h : CM W base bl v C IV) (hg : W.grownBy W' (some r)) (hr : r < base) : CM W' base bl v C IV :=
  ⟨h.il, own_grown h.row hg hr, fun j hj => own_grown (h.inn j hj) hg hr, h.old, h.las, h.b1, Nat.le_trans h.b2 hg.size⟩
theorem own_far {w w' : World} {base : Nat} {e : TypeId} {size n : Nat} {v : Value} {xs : List Value} {row : Option Nat} (h : w.ownsRow base e size v n xs) (hg : w.grownBy w' row) (hne : ∀ i, v.ownBlock = some i → row ≠ some i) : w'.ownsRow base e size v n xs := by
  obtain ⟨h1, h2⟩ := h
  refine ⟨h1, ?_⟩
  rcases h2 with h2 | ⟨g, cap, cur, rfl, hgb, hh, q⟩
  · exact .inl h2
  · have hlt : g < w.heap.size := by
      rcases Nat.lt_or_ge g w.heap.size with hlt | hge
      · exact hlt
      · rw [Array.getElem?_eq_none hge] at hh; cases hh
    exact .inr ⟨g, cap, cur, rfl, hgb, (hg.block g hlt (fun e => hne g rfl e.symm)).trans hh, q⟩
theorem own_lt {w : World} {base : Nat} {e : TypeId} {size n : Nat} {v : Value} {xs : List Value} (h : w.ownsRow base e size v n xs) : ∀ i, v.ownBlock = some i → i < w.heap.size := by
  intro i hi
  rcases h.2 with ⟨rfl, _⟩ | ⟨g, cap, cur, rfl, hgb, hh, q⟩
  · cases hi
  · obtain rfl := Option.some.inj hi
    rcases Nat.lt_or_ge g w.heap.size with hlt | hge
    · exact hlt
    · rw [Array.getElem?_eq_none hge] at hh; cases hh

/-- A call begins. -/
theorem CM.begin_ {w5 : World} {v' : Value} {c : Cl} {o : Obj} (h : CM W base bl v C IV) (hc : c.inner = []) (hg : (W.alloc o).grownBy w5 v.ownBlock) (hown : w5.ownsRow base 39 6 v' (C.length + 1) (clC C IV ++ c.cellsV (.slice none 0 0))) :
    CM w5 base W.heap.size v' (C ++ [c]) (IV ++ [.slice none 0 0]) := by
  have h1 := h.alloc o
  have gl : ∀ j, j < C.length → (IV ++ [Value.slice none 0 0]).getD j undef = IV.getD j undef ∧ (C ++ [c]).getD j default = C.getD j default := fun j hj =>
    ⟨by simp [List.getD_eq_getElem?_getD, List.getElem?_append_left (show j < IV.length by rw [h.il]; exact hj)], by simp [List.getD_eq_getElem?_getD, List.getElem?_append_left hj]⟩
  have ge : (IV ++ [Value.slice none 0 0]).getD C.length undef = .slice none 0 0 ∧ (C ++ [c]).getD C.length default = c :=
    ⟨by rw [← h.il]; simp [List.getD_eq_getElem?_getD], by simp [List.getD_eq_getElem?_getD]⟩
  refine ⟨by simp [h.il], ?_, fun j hj => ?_, fun j hj i hi => ?_, fun j hj i hi => ?_, Nat.le_trans h.b1 h.b2, ?_⟩
  · rw [clC_snoc _ _ h.il, List.length_append]; exact hown
  · rw [List.length_append] at hj
    rcases (by simp at hj; omega : j < C.length ∨ j = C.length) with hj | rfl
    · rw [(gl j hj).1, (gl j hj).2]
      exact own_apart (h1.inn j hj) h1.row (by decide) hg
    · rw [ge.1, ge.2, hc]
      exact ⟨rfl, .inl ⟨rfl, rfl⟩⟩
  · rw [List.length_append] at hj
    have hj' : j < C.length := by simp at hj; exact hj
    rw [(gl j hj').1] at hi
    exact own_lt (h.inn j hj') i hi
  · rw [List.length_append] at hj
    obtain rfl : j = C.length := by simp at hj; exact hj
    rw [ge.1] at hi
    cases hi
  · have := hg.size
    simp at this
    omega
end
section
variable {W w5 : World} {base bl g cap : Nat} {C : List Cl} {IV : List Value} {c : Cl} {lv : Value}
theorem snoc_get (h : IV.length = C.length) : (∀ (u : Value) j, j < C.length → (IV ++ [u]).getD j undef = IV.getD j undef) ∧ (∀ (d : Cl) j, j < C.length → (C ++ [d]).getD j default = C.getD j default) ∧ (∀ u : Value, (IV ++ [u]).getD C.length undef = u) ∧ (∀ d : Cl, (C ++ [d]).getD C.length default = d) :=
  ⟨fun u j hj => by simp [List.getD_eq_getElem?_getD, List.getElem?_append_left (show j < IV.length by rw [h]; exact hj)], fun d j hj => by simp [List.getD_eq_getElem?_getD, List.getElem?_append_left hj],
    fun u => by rw [← h]; simp [List.getD_eq_getElem?_getD], fun d => by simp [List.getD_eq_getElem?_getD]⟩
theorem CM.il' (h : CM W base bl (.slice (some ⟨g, 0, none⟩) (C.length + 1) cap) (C ++ [c]) (IV ++ [lv])) : IV.length = C.length := by have := h.il; simpa using this
/-- The last call's cells. -/
theorem CM.cell (h : CM W base bl (.slice (some ⟨g, 0, none⟩) (C.length + 1) cap) (C ++ [c]) (IV ++ [lv])) (j : Nat) (hj : j < 6) : W.cell? ⟨g, C.length * 6 + j, none⟩ = (c.cellsV lv)[j]? := by
  have hrow := h.row
  rw [clC_snoc _ _ h.il', List.length_append] at hrow
  rw [World.ownsRow.cellAt hrow _ (by show _ < (C.length + 1) * 6; omega), List.getElem?_append_right (by rw [clC_len _ _ h.il']; omega), clC_len _ _ h.il']
  congr 1
  omega
theorem CM.frozen (h : CM W base bl (.slice (some ⟨g, 0, none⟩) (C.length + 1) cap) (C ++ [c]) (IV ++ [lv])) (j : Nat) : W.frozen? ⟨g, j, none⟩ = false := by
  have hrow := h.row
  rw [List.length_append] at hrow
  exact World.ownsRow.frozenAt hrow j
theorem set_last {L M N : List Value} (j : Nat) (u : Value) (h : M.set j u = N) : (L ++ M).set (L.length + j) u = L ++ N := by
  rw [List.set_append_right _ _ (by omega), Nat.add_sub_cancel_left, h]
/-- Another event within the last call. -/
theorem CM.inner {lv' : Value} {o : Obj} {z : Int} (h : CM W base bl (.slice (some ⟨g, 0, none⟩) (C.length + 1) cap) (C ++ [c]) (IV ++ [lv])) (hg : (W.alloc o).grownBy w5 lv.ownBlock)
    (hown : w5.ownsRow base 3 1 lv' (c.inner.length + 1) (c.inner.map (Value.int .i64) ++ [.int .i64 z])) (hnew : lv'.ownBlock = lv.ownBlock ∨ lv'.ownBlock = some (W.alloc o).heap.size) :
    CM (w5.setCell ⟨g, C.length * 6 + 5, none⟩ lv') base bl (.slice (some ⟨g, 0, none⟩) (C.length + 1) cap) (C ++ [{ c with inner := c.inner ++ [z] }]) (IV ++ [lv']) := by
  have h1 := h.alloc o
  obtain ⟨s1, s2, s3, s4⟩ := snoc_get h.il'
  have hlast := h1.inn C.length (by simp)
  rw [s3, s4] at hlast
  have hlas := h.las C.length (by simp)
  rw [s3] at hlas
  have hrow5 : w5.ownsRow base 39 6 (.slice (some ⟨g, 0, none⟩) (C.length + 1) cap) (C.length + 1) (clC C IV ++ c.cellsV lv) := by
    have := own_apart h1.row hlast (by decide) hg
    rwa [clC_snoc _ _ h.il', List.length_append] at this
  have hst := hrow5.stored (C.length * 6 + 5) lv'
  have hset : w5.grownBy (w5.setCell ⟨g, C.length * 6 + 5, none⟩ lv') (some g) := hst.2
  refine ⟨by simp [h.il'], ?_, fun j hj => ?_, fun j hj i hi => ?_, fun j hj i hi => ?_, h.b1, ?_⟩
  · rw [clC_snoc _ _ h.il', List.length_append]
    have := hst.1
    rw [← clC_len C IV h.il', set_last 5 lv' (N := Cl.cellsV { c with inner := c.inner ++ [z] } lv') rfl] at this
    rw [clC_len C IV h.il'] at this
    exact this
  · rw [List.length_append] at hj
    rcases (by simp at hj; omega : j < C.length ∨ j = C.length) with hj | rfl
    · rw [s1 _ j hj, s2 _ j hj]
      have h2 := h1.inn j (by simp; omega)
      rw [s1 _ j hj, s2 _ j hj] at h2
      have ho := h.old j (by simp; omega)
      rw [s1 _ j hj] at ho
      exact own_apart (own_far h2 hg (fun i e e2 => by have := ho i e; have := hlas i e2; omega)) hrow5 (by decide) hset
    · rw [s3, s4, List.length_append, List.map_append]
      exact own_apart hown hrow5 (by decide) hset
  · rw [List.length_append] at hj
    have hj' : j < C.length := by simp at hj; exact hj
    rw [s1 _ j hj'] at hi
    have ho := h.old j (by simp; omega)
    rw [s1 _ j hj'] at ho
    exact ho i hi
  · rw [List.length_append] at hj
    obtain rfl : j = C.length := by simp at hj; exact hj
    rw [s3] at hi
    rcases hnew with e | e
    · rw [e] at hi; exact hlas i hi
    · rw [e] at hi
      have := Option.some.inj hi
      have := h1.b2
      omega
  · exact Nat.le_trans h1.b2 (Nat.le_trans hg.size hset.size)
/-- The last call's inner row, told in its cell, while that row grows. -/
theorem CM.later {o : Obj} (h : CM W base bl (.slice (some ⟨g, 0, none⟩) (C.length + 1) cap) (C ++ [c]) (IV ++ [lv])) (hg : (W.alloc o).grownBy w5 lv.ownBlock) : w5.cell? ⟨g, C.length * 6 + 5, none⟩ = some lv ∧ w5.frozen? ⟨g, C.length * 6 + 5, none⟩ = false := by
  have h1 := h.alloc o
  obtain ⟨s1, s2, s3, s4⟩ := snoc_get h.il'
  have hlast := h1.inn C.length (by simp)
  rw [s3, s4] at hlast
  have hrow5 : w5.ownsRow base 39 6 (.slice (some ⟨g, 0, none⟩) (C.length + 1) cap) (C.length + 1) (clC C IV ++ c.cellsV lv) := by
    have := own_apart h1.row hlast (by decide) hg
    rwa [clC_snoc _ _ h.il', List.length_append] at this
  refine ⟨?_, hrow5.frozenAt _⟩
  rw [hrow5.cellAt _ (by omega), List.getElem?_append_right (by rw [clC_len _ _ h.il']; omega), clC_len _ _ h.il', Nat.add_sub_cancel_left]
  rfl
/-- The last call ends. -/
theorem CM.fin (z : Int) (r : Int) (h : CM W base bl (.slice (some ⟨g, 0, none⟩) (C.length + 1) cap) (C ++ [c]) (IV ++ [lv])) :
    CM ((W.setCell ⟨g, C.length * 6 + 3, none⟩ (.int .i64 z)).setCell ⟨g, C.length * 6 + 4, none⟩ (.int .u32 r)) base bl (.slice (some ⟨g, 0, none⟩) (C.length + 1) cap) (C ++ [{ c with ended := z, result := r }]) (IV ++ [lv]) := by
  obtain ⟨s1, s2, s3, s4⟩ := snoc_get h.il'
  have hrow := h.row
  rw [clC_snoc _ _ h.il', List.length_append] at hrow
  have st1 := hrow.stored (C.length * 6 + 3) (.int .i64 z)
  have st2 := World.ownsRow.stored st1.1 (C.length * 6 + 4) (.int .u32 r)
  have hg : W.grownBy ((W.setCell ⟨g, C.length * 6 + 3, none⟩ (.int .i64 z)).setCell ⟨g, C.length * 6 + 4, none⟩ (.int .u32 r)) (some g) := grown_trans' st1.2 st2.2
  refine ⟨by simp [h.il'], ?_, fun j hj => ?_, fun j hj i hi => ?_, fun j hj i hi => ?_, h.b1, Nat.le_trans h.b2 hg.size⟩
  · rw [clC_snoc _ _ h.il', List.length_append]
    have := st2.1
    rw [← clC_len C IV h.il', set_last 3 _ (N := Cl.cellsV { c with ended := z } lv) rfl, set_last 4 _ (N := Cl.cellsV { c with ended := z, result := r } lv) rfl] at this
    rw [clC_len C IV h.il'] at this
    exact this
  · rw [List.length_append] at hj
    rcases (by simp at hj; omega : j < C.length ∨ j = C.length) with hj | rfl
    · rw [s2 _ j hj]
      have h2 := h.inn j (by simp; omega)
      rw [s2 _ j hj] at h2
      exact own_apart h2 hrow (by decide) hg
    · rw [s4]
      have h2 := h.inn C.length (by simp)
      rw [s4] at h2
      exact own_apart h2 hrow (by decide) hg
  · exact h.old j (by simp at hj ⊢; omega) i hi
  · exact h.las j (by simp at hj ⊢; omega) i hi
end

/-- What an event of the thread makes of its calls. -/
def modLast (f : Cl → Cl) (C : List Cl) : List Cl := match C.getLast? with
  | some c => C.dropLast ++ [f c]
  | none => C
def lastSite (C : List Cl) : Int := match C.getLast? with
  | some c => c.site
  | none => 0
theorem modLast_snoc (f : Cl → Cl) (C : List Cl) (c : Cl) : modLast f (C ++ [c]) = C ++ [f c] := by
  unfold modLast
  simp
theorem lastSite_snoc (C : List Cl) (c : Cl) : lastSite (C ++ [c]) = c.site := by
  unfold lastSite
  simp
def cstep (t : Int) (s : List Cl × Bool) (x : Nat × Ev) : List Cl × Bool :=
  if x.2.kind ≠ 7 then (if s.2 = true ∧ x.2.kind ≠ 3 then (modLast (fun c => { c with inner := c.inner ++ [(x.1 : Int)] }) s.1, true) else s)
  else if x.2.k % 2 = 0 then (s.1 ++ [⟨x.2.k / 2, t, (x.1 : Int), -1, 0, []⟩], true)
  else if s.2 = true ∧ lastSite s.1 = x.2.k / 2 then (modLast (fun c => { c with ended := (x.1 : Int), result := x.2.value }) s.1, false) else s
def callsF (t : Int) (pre : List (Nat × Ev)) : List Cl × Bool := pre.foldl (cstep t) ([], false)
theorem callsF_snoc (t : Int) (pre : List (Nat × Ev)) (x : Nat × Ev) : callsF t (pre ++ [x]) = cstep t (callsF t pre) x := by unfold callsF; rw [List.foldl_append]; rfl
theorem callsF_len (t : Int) (pre : List (Nat × Ev)) : True := trivial
end Go.Proofs.Ytidedjjpaoagjaa
