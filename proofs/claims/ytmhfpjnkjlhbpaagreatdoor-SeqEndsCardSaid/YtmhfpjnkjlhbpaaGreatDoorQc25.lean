/- Events without bounds (XEv): as values; a thread's events with their places. trace.Of, as an iterator: its contract for every loop body that keeps old memory. Events without bounds (XEv): as values; a thread's events with their places. trace.Of, as an iterator: its contract for every loop body that keeps old memory. trace.Outs: what a thread put out. Calls: as rows of cells whose last field is a row of their own; how they come about, event by event. The document's calls, one by one, as lists: each thread's are what goes through its events gathers. Calls (plain): what they say of events, and events of them. asm.Builder: what holds of one in memory. -/
import Derived.Test.YtmhfpjnkjlhbpaaGreatDoorQc02
import Derived.RangeFuncNested
import Derived.RangeFuncBox
import Derived.RangeFuncBound
import Derived.RangeFuncCalls
import Derived.RangeFuncLeaves
import Derived.Shelf.Abstract
import Derived.Shelf.RegionOpen
import Derived.WalkKit
import Derived.OwnWalkIn
import Derived.TacticsInMore
import Derived.LoopNIn
import Derived.LoopIn
import Derived.Maps.AppendAt
import Derived.Laws.OwnMore
import Derived.Test.YtmhfpjnkjlhbpaaGreatDoorQc07
import Derived.Maps.Own
import Derived.Maps.OwnSet
import Derived.Maps.OwnOps
import Derived.WalkSpells
namespace Go.Proofs.YtmhfpjnkjlhbpaaGreatDoor
open Go.ChangeShapes Go.WideShapes Go.ChangeAt Go.RowKit Go.Deep
set_option linter.unusedVariables false
set_option maxRecDepth 100000
set_option linter.unusedSimpArgs false
structure EvB where
  (kind who pc addr value old k : Int)
  ok : Bool
  k0 : 0 <= k
  k1 : k <= 4294967295
instance : Inhabited EvB := ⟨⟨0, 0, 0, 0, 0, 0, 0, false, by decide, by decide⟩⟩
end Go.Proofs.YtmhfpjnkjlhbpaaGreatDoor
namespace Go.Proofs.YtmhfpjnkjlhbpaaGreatDoor
open Go.ChangeShapes Go.WideShapes Go.ChangeAt Go.RowKit Go.Shelf
set_option linter.unusedVariables false
set_option maxRecDepth 100000
set_option linter.unusedSimpArgs false
attribute [local go_sem] Oper.semAt_some
end Go.Proofs.YtmhfpjnkjlhbpaaGreatDoor
namespace Go.Proofs.YtmhfpjnkjlhbpaaGreatDoor
open Go.ChangeShapes Go.WideShapes Go.ChangeAt Go.RowKit Go.Deep
set_option linter.unusedVariables false
set_option maxRecDepth 100000
set_option linter.unusedSimpArgs false
structure Ev where
  (kind who pc addr value old k : Int)
  ok : Bool
instance : Inhabited Ev := ⟨⟨0, 0, 0, 0, 0, 0, 0, false⟩⟩
def evs (E : Nat -> Ev) (t : Int) (k : Nat) : List (Nat × Ev) := ((List.range k).map fun i => (i, E i)).filter fun x => x.2.who == t
end Go.Proofs.YtmhfpjnkjlhbpaaGreatDoor
namespace Go.Proofs.YtmhfpjnkjlhbpaaGreatDoor
open Go.ChangeShapes Go.WideShapes Go.ChangeAt Go.RowKit Go.Shelf
set_option linter.unusedVariables false
set_option maxRecDepth 100000
set_option linter.unusedSimpArgs false
attribute [local go_sem] Oper.semAt_some
end Go.Proofs.YtmhfpjnkjlhbpaaGreatDoor
namespace Go.Proofs.YtmhfpjnkjlhbpaaGreatDoor
open Go.ChangeShapes Go.WideShapes Go.ChangeAt Go.RowKit Go.Shelf
set_option linter.unusedVariables false
set_option maxRecDepth 100000
set_option linter.unusedSimpArgs false
attribute [local go_sem] Oper.semAt_some
end Go.Proofs.YtmhfpjnkjlhbpaaGreatDoor
namespace Go.Proofs.YtmhfpjnkjlhbpaaGreatDoor
open Go.ChangeShapes Go.WideShapes Go.ChangeAt Go.RowKit Go.Deep
set_option linter.unusedVariables false
set_option maxRecDepth 100000
set_option linter.unusedSimpArgs false
structure Cl where
  (site who began ended result : Int)
  inner : List Int
instance : Inhabited Cl := ⟨⟨0, 0, 0, 0, 0, []⟩⟩
def Cl.cellsV (c : Cl) (iv : Value) : List Value := [.int .i64 c.site, .int .i64 c.who, .int .i64 c.began, .int .i64 c.ended, .int .u32 c.result, iv]
def clC (C : List Cl) (IV : List Value) : List Value := (C.zip IV).flatMap fun p => p.1.cellsV p.2
theorem clC_snoc (C : List Cl) (IV : List Value) (h : IV.length = C.length) (c : Cl) (iv : Value) : clC (C ++ [c]) (IV ++ [iv]) = clC C IV ++ c.cellsV iv := by
  unfold clC
  rw [List.zip_append h.symm, List.flatMap_append]
  simp
theorem clC_len (C : List Cl) (IV : List Value) (h : IV.length = C.length) : (clC C IV).length = C.length * 6 := by
  unfold clC
  rw [slp_len6 (C.zip IV), List.length_zip, h, Nat.min_self]
where
  slp_len6 : ∀ l : List (Cl × Value), (l.flatMap fun p => p.1.cellsV p.2).length = l.length * 6
    | [] => rfl
    | x :: l => by rw [List.flatMap_cons, List.length_append, slp_len6 l, List.length_cons]; show 6 + _ = _; omega
structure CM (W : World) (base bl : Nat) (v : Value) (C : List Cl) (IV : List Value) : Prop where
  il : IV.length = C.length
  row : W.ownsRow base 72 6 v C.length (clC C IV)
  inn : ∀ j, j < C.length -> W.ownsRow base 3 1 (IV.getD j undef) (C.getD j default).inner.length ((C.getD j default).inner.map (Value.int .i64))
  old : ∀ j, j + 1 < C.length -> ∀ i, (IV.getD j undef).ownBlock = some i -> i < bl
  las : ∀ j, j + 1 = C.length -> ∀ i, (IV.getD j undef).ownBlock = some i -> bl <= i
  b1 : base <= bl
  b2 : bl <= W.heap.size
section
variable {W W' : World} {base bl : Nat} {v : Value} {C : List Cl} {IV : List Value}
theorem CM.below (h : CM W base bl v C IV) (hb : Below W.heap.size W W') : CM W' base bl v C IV :=
  ⟨h.il, own_below h.row (Nat.le_refl _) hb, fun j hj => own_below (h.inn j hj) (Nat.le_refl _) hb, h.old, h.las, h.b1, Nat.le_trans h.b2 hb.size⟩
theorem CM.alloc (h : CM W base bl v C IV) (o : Obj) : CM (W.alloc o) base bl v C IV := h.below ((Below.refl _ _).alloc (Nat.le_refl _) o)
theorem own_far {w w' : World} {base : Nat} {e : TypeId} {size n : Nat} {v : Value} {xs : List Value} {row : Option Nat} (h : w.ownsRow base e size v n xs) (hg : w.grownBy w' row) (hne : ∀ i, v.ownBlock = some i -> row ≠ some i) : w'.ownsRow base e size v n xs := by
  obtain ⟨h1, h2⟩ := h
  refine ⟨h1, ?_⟩
  rcases h2 with h2 | ⟨g, cap, cur, rfl, hgb, hh, q⟩
  · exact .inl h2
  · have hlt : g < w.heap.size := by
      rcases Nat.lt_or_ge g w.heap.size with hlt | hge
      · exact hlt
      · rw [Array.getElem?_eq_none hge] at hh; cases hh
    exact .inr ⟨g, cap, cur, rfl, hgb, (hg.block g hlt (fun e => hne g rfl e.symm)).trans hh, q⟩
end
section
variable {W w5 : World} {base bl g cap : Nat} {C : List Cl} {IV : List Value} {c : Cl} {lv : Value}
theorem snoc_get (h : IV.length = C.length) : (∀ (u : Value) j, j < C.length -> (IV ++ [u]).getD j undef = IV.getD j undef) /\ (∀ (d : Cl) j, j < C.length -> (C ++ [d]).getD j default = C.getD j default) /\ (∀ u : Value, (IV ++ [u]).getD C.length undef = u) /\ (∀ d : Cl, (C ++ [d]).getD C.length default = d) :=
  ⟨fun u j hj => by simp [List.getD_eq_getElem?_getD, List.getElem?_append_left (show j < IV.length by rw [h]; exact hj)], fun d j hj => by simp [List.getD_eq_getElem?_getD, List.getElem?_append_left hj],
    fun u => by rw [<- h]; simp [List.getD_eq_getElem?_getD], fun d => by simp [List.getD_eq_getElem?_getD]⟩
theorem CM.il' (h : CM W base bl (.slice (some ⟨g, 0, none⟩) (C.length + 1) cap) (C ++ [c]) (IV ++ [lv])) : IV.length = C.length := by have := h.il; simpa using this
theorem CM.cell (h : CM W base bl (.slice (some ⟨g, 0, none⟩) (C.length + 1) cap) (C ++ [c]) (IV ++ [lv])) (j : Nat) (hj : j < 6) : W.cell? ⟨g, C.length * 6 + j, none⟩ = (c.cellsV lv)[j]? := by
  have hrow := h.row
  rw [clC_snoc _ _ h.il', List.length_append] at hrow
  rw [World.ownsRow.cellAt hrow _ (by show _ < (C.length + 1) * 6; omega), List.getElem?_append_right (by rw [clC_len _ _ h.il']; omega), clC_len _ _ h.il']
  congr 1
  omega
theorem CM.frozen (h : CM W base bl (.slice (some ⟨g, 0, none⟩) (C.length + 1) cap) (C ++ [c]) (IV ++ [lv])) (j : Nat) : W.frozen? ⟨g, j, none⟩ = false := by
  have hrow := h.row
  rw [List.length_append] at hrow
  exact World.ownsRow.frozenAt hrow j
theorem set_last {L M N : List Value} (j : Nat) (u : Value) (h : M.set j u = N) : (L ++ M).set (L.length + j) u = L ++ N := by
  rw [List.set_append_right _ _ (by omega), Nat.add_sub_cancel_left, h]
theorem CM.inner {lv' : Value} {o : Obj} {z : Int} (h : CM W base bl (.slice (some ⟨g, 0, none⟩) (C.length + 1) cap) (C ++ [c]) (IV ++ [lv])) (hg : (W.alloc o).grownBy w5 lv.ownBlock)
    (hown : w5.ownsRow base 3 1 lv' (c.inner.length + 1) (c.inner.map (Value.int .i64) ++ [.int .i64 z])) (hnew : lv'.ownBlock = lv.ownBlock ∨ lv'.ownBlock = some (W.alloc o).heap.size) :
    CM (w5.setCell ⟨g, C.length * 6 + 5, none⟩ lv') base bl (.slice (some ⟨g, 0, none⟩) (C.length + 1) cap) (C ++ [{ c with inner := c.inner ++ [z] }]) (IV ++ [lv']) := by
  have h1 := h.alloc o
  obtain ⟨s1, s2, s3, s4⟩ := snoc_get h.il'
  have hlast := h1.inn C.length (by simp)
  rw [s3, s4] at hlast
  have hlas := h.las C.length (by simp)
  rw [s3] at hlas
  have hrow5 : w5.ownsRow base 72 6 (.slice (some ⟨g, 0, none⟩) (C.length + 1) cap) (C.length + 1) (clC C IV ++ c.cellsV lv) := by
    have := own_apart h1.row hlast (by decide) hg
    rwa [clC_snoc _ _ h.il', List.length_append] at this
  have hst := hrow5.stored (C.length * 6 + 5) lv'
  have hset : w5.grownBy (w5.setCell ⟨g, C.length * 6 + 5, none⟩ lv') (some g) := hst.2
  refine ⟨by simp [h.il'], ?_, fun j hj => ?_, fun j hj i hi => ?_, fun j hj i hi => ?_, h.b1, ?_⟩
  · rw [clC_snoc _ _ h.il', List.length_append]
    have := hst.1
    rw [<- clC_len C IV h.il', set_last 5 lv' (N := Cl.cellsV { c with inner := c.inner ++ [z] } lv') rfl] at this
    rw [clC_len C IV h.il'] at this
    exact this
  · rw [List.length_append] at hj
    rcases (by simp at hj; omega : j < C.length ∨ j = C.length) with hj | rfl
    · rw [s1 _ j hj, s2 _ j hj]
      have h2 := h1.inn j (by simp; omega)
      rw [s1 _ j hj, s2 _ j hj] at h2
      have ho := h.old j (by simp; omega)
      rw [s1 _ j hj] at ho
      exact own_apart (own_far h2 hg (fun i e e2 => by have := ho i e; have := hlas i e2; omega)) hrow5 (by decide) hset
    · rw [s3, s4, List.length_append, List.map_append]
      exact own_apart hown hrow5 (by decide) hset
  · rw [List.length_append] at hj
    have hj' : j < C.length := by simp at hj; exact hj
    rw [s1 _ j hj'] at hi
    have ho := h.old j (by simp; omega)
    rw [s1 _ j hj'] at ho
    exact ho i hi
  · rw [List.length_append] at hj
    obtain rfl : j = C.length := by simp at hj; exact hj
    rw [s3] at hi
    rcases hnew with e | e
    · rw [e] at hi; exact hlas i hi
    · rw [e] at hi
      have := Option.some.inj hi
      have := h1.b2
      omega
  · exact Nat.le_trans h1.b2 (Nat.le_trans hg.size hset.size)
theorem CM.later {o : Obj} (h : CM W base bl (.slice (some ⟨g, 0, none⟩) (C.length + 1) cap) (C ++ [c]) (IV ++ [lv])) (hg : (W.alloc o).grownBy w5 lv.ownBlock) : w5.cell? ⟨g, C.length * 6 + 5, none⟩ = some lv /\ w5.frozen? ⟨g, C.length * 6 + 5, none⟩ = false := by
  have h1 := h.alloc o
  obtain ⟨s1, s2, s3, s4⟩ := snoc_get h.il'
  have hlast := h1.inn C.length (by simp)
  rw [s3, s4] at hlast
  have hrow5 : w5.ownsRow base 72 6 (.slice (some ⟨g, 0, none⟩) (C.length + 1) cap) (C.length + 1) (clC C IV ++ c.cellsV lv) := by
    have := own_apart h1.row hlast (by decide) hg
    rwa [clC_snoc _ _ h.il', List.length_append] at this
  refine ⟨?_, hrow5.frozenAt _⟩
  rw [hrow5.cellAt _ (by omega), List.getElem?_append_right (by rw [clC_len _ _ h.il']; omega), clC_len _ _ h.il', Nat.add_sub_cancel_left]
  rfl
end
def ostep (s : Cl × Bool) (x : Nat × EvB) : Cl × Bool :=
  if s.2 = false then s else if x.2.who ≠ s.1.who then s
  else if x.2.kind ≠ 7 then (if x.2.kind ≠ 3 then ({ s.1 with inner := s.1.inner ++ [(x.1 : Int)] }, true) else s)
  else if x.2.k % 2 = 0 then (s.1, false)
  else if x.2.k / 2 = s.1.site then ({ s.1 with ended := (x.1 : Int), result := x.2.value }, false) else s
def newC (E : Nat -> EvB) (i : Nat) : Cl := ⟨(E i).k / 2, (E i).who, (i : Int), -1, 0, []⟩
def begBB (E : Nat -> EvB) (i : Nat) : Bool := (E i).kind == 7 && (E i).k % 2 == 0
def evFrom (E : Nat -> EvB) (i n : Nat) : List (Nat × EvB) := (List.range n).map fun k => (i + k, E (i + k))
def oneS (E : Nat -> EvB) (len i : Nat) : Cl × Bool := (evFrom E (i + 1) (len - (i + 1))).foldl ostep (newC E i, true)
def rs (E : Nat -> EvB) (t : Int) (len : Nat) : List (Cl × Bool) := ((List.range len).filter fun i => begBB E i && (E i).who == t).map (oneS E len)
theorem below_drewB (W : World) : Below W.heap.size W W.drew := ⟨rfl, rfl, rfl, Nat.le_refl _, fun _ _ => rfl⟩
theorem insB_info5 : (Tryz.prog.info? 75).map (fun i => (i.zero, i.size, i.bytes)) = some (some (.agg #[.int .i64 0, .int .i64 0, .int .i64 0, .int .i64 0, .int .u32 0]), 5, 40) := by kernel_rfl
structure BB where
  code : List Ins
  links : List (Nat × List UInt8)
  places : List (List UInt8 × Nat)
def str (s : List UInt8) : Value := .string ⟨s.toArray⟩
def lkc (x : Nat × List UInt8) : List Value := [.int .i64 (x.1 : Int), str x.2]
theorem key_law : Maps.Keyed Tryz.prog 9 := Maps.string_keyed Tryz.underlying9
theorem key_str {s : List UInt8} (h : s.length <= maxLen) : keyOf Tryz.prog 9 (str s) = some (.string s) := by
  have := Go.WideMaps.keyOf_string_mk (P := Tryz.prog) (k := 9) Tryz.underlying9 (s := ⟨s.toArray⟩) (show s.toArray.size <= maxLen from by simpa using h)
  simpa [str] using this
def PlI (N0 : Nat) (W : World) : Option Nat -> List (List UInt8 × Nat) -> Prop
  | none, D => D = []
  | some mb, D => N0 <= mb /\ ∃ DW : DataW Unit, W.ownsMap Tryz.prog 9 (plainElem Tryz.prog 3) mb D.length DW /\ (∀ s, Maps.has DW (.string s) = (D.lookup s).isSome) /\ ∀ s v, D.lookup s = some v -> ∀ z, DW.atKey (.string s) z = .lit (.int .i64 (v : Int))
theorem map_same {w w' : World} {b n : Nat} {k : TypeId} {R : Value -> Option (DataW Unit × List MemPlace)} {D : DataW Unit} (h : w.ownsMap Tryz.prog k R b n D) (hk : w'.heap[b]? = w.heap[b]?) : w'.ownsMap Tryz.prog k R b n D := by
  obtain ⟨es, clock, hb, q⟩ := h
  exact ⟨es, clock, hk.trans hb, q⟩
theorem PlI.same {N0 : Nat} {W W' : World} {mo : Option Nat} {D : List (List UInt8 × Nat)} (h : PlI N0 W mo D) (hk : ∀ mb, mo = some mb -> W'.heap[mb]? = W.heap[mb]?) : PlI N0 W' mo D := by
  cases mo with
  | none => exact h
  | some mb => obtain ⟨h1, DW, h2, h3⟩ := h; exact ⟨h1, DW, map_same h2 (hk mb rfl), h3⟩
theorem PlI.made (N0 : Nat) (W : World) (hN : N0 <= W.heap.size) : PlI N0 (W.alloc (.map #[] 0)) (some W.heap.size) [] :=
  ⟨hN, .map [], World.ownsMap_made W _ _ _, fun s => rfl, fun s v e => by cases e⟩
theorem PlI.put {N0 : Nat} {W' : World} {mb : Nat} {D : List (List UInt8 × Nat)} {DW : DataW Unit} (h1 : N0 <= mb) (hm : Maps.IsMap DW) (h2 : ∀ s, Maps.has DW (.string s) = (D.lookup s).isSome) (h3 : ∀ s v, D.lookup s = some v -> ∀ z, DW.atKey (.string s) z = .lit (.int .i64 (v : Int)))
    (s : List UInt8) (v : Nat) (h : W'.ownsMap Tryz.prog 9 (plainElem Tryz.prog 3) mb (D.length + 1) (DW.put (.string s) (.lit (.int .i64 (v : Int))))) : PlI N0 W' (some mb) ((s, v) :: D) := by
  refine ⟨h1, _, h, fun x => ?_, fun x u hx z => ?_⟩
  · by_cases e : x = s
    · subst e
      rw [Maps.has_put_same hm (show WideAt.IsKeyLit (.string x) from trivial)]; simp [List.lookup]
    · rw [Maps.has_put_other (fun q => e (by injection q)), h2]
      rw [List.lookup_cons, show (x == s) = false from by simpa using e]
  · by_cases e : x = s
    · subst e
      rw [Maps.atKey_put_same hm (show WideAt.IsKeyLit (.string x) from trivial)]
      simp [List.lookup] at hx
      rw [hx]
    · rw [Maps.atKey_put_other (fun q => e (by injection q))]
      rw [List.lookup_cons, show (x == s) = false from by simpa using e] at hx
      exact h3 x u hx z
structure BelF (N : Nat) (W W' : World) : Prop where
  b : Below N W W'
  f : ∀ (g : Nat) (t : TypeId) (cs : Array Value), t ≠ 130 -> t ≠ 75 -> t ≠ 184 -> Blk W g t cs -> Blk W' g t cs
theorem BelF.refl (N : Nat) (W : World) : BelF N W W := ⟨Below.refl N W, fun _ _ _ _ _ _ h => h⟩
theorem BelF.trans {N : Nat} {A B C : World} (h : BelF N A B) (k : BelF N B C) : BelF N A C := ⟨h.b.trans k.b, fun g t cs h1 h2 h3 h4 => k.f g t cs h1 h2 h3 (h.f g t cs h1 h2 h3 h4)⟩
theorem BelF.of {N : Nat} {A B : World} (h : Below A.heap.size A B) (hN : N <= A.heap.size) : BelF N A B := ⟨h.mono hN, fun _ _ _ _ _ _ k => k.below h k.lt⟩
theorem BelF.size {N : Nat} {A B : World} (h : BelF N A B) : A.heap.size <= B.heap.size := h.b.size
structure BParts (N0 : Nat) (W : World) (bb : Nat) (b : BB) (vc vl : Value) (mo : Option Nat) : Prop where
  blk : Blk W bb 130 #[vc, .map mo, vl, .bool false]
  ge : N0 <= bb
  code : W.ownsRow N0 75 5 vc b.code.length (b.code.flatMap Ins.cells)
  links : W.ownsRow N0 184 2 vl b.links.length (b.links.flatMap lkc)
  places : PlI N0 W mo b.places
def BI (N0 : Nat) (W : World) (bb : Nat) (b : BB) : Prop := ∃ vc vl mo, BParts N0 W bb b vc vl mo
theorem own_same {w w' : World} {base : Nat} {e : TypeId} {size n : Nat} {v : Value} {xs : List Value} (h : w.ownsRow base e size v n xs) (hk : ∀ g, v.ownBlock = some g -> w'.heap[g]? = w.heap[g]?) : w'.ownsRow base e size v n xs := by
  refine ⟨h.1, ?_⟩
  rcases h.2 with hn | ⟨g, cap, cur, rfl, hb, hgg, rest⟩
  · exact .inl hn
  · exact .inr ⟨g, cap, cur, rfl, hb, (hk g rfl).trans hgg, rest⟩
theorem rows_ne {W : World} {n1 n2 s1 s2 k1 k2 : Nat} {e1 e2 : TypeId} {v1 v2 : Value} {x1 x2 : List Value} (h1 : W.ownsRow n1 e1 s1 v1 k1 x1) (h2 : W.ownsRow n2 e2 s2 v2 k2 x2) (hne : e1 ≠ e2) {g : Nat} (hg : v1.ownBlock = some g) : some g ≠ v2.ownBlock := fun q => by
  rcases h1.2 with ⟨rfl, _⟩ | ⟨g1, c1, u1, rfl, _, hh, _⟩
  · cases hg
  · obtain rfl := Option.some.inj hg
    exact row_ne (show Blk W g1 e1 u1 from hh) h2 hne q
theorem map_ne {W : World} {mb n n2 s2 k2 : Nat} {k : TypeId} {R : Value -> Option (DataW Unit × List MemPlace)} {D : DataW Unit} {e2 : TypeId} {v2 : Value} {x2 : List Value} (h : W.ownsMap Tryz.prog k R mb n D) (h2 : W.ownsRow n2 e2 s2 v2 k2 x2) : some mb ≠ v2.ownBlock := fun q => by
  obtain ⟨es, clock, hb, _⟩ := h
  rcases h2.2 with ⟨rfl, _⟩ | ⟨g1, c1, u1, rfl, _, hh, _⟩
  · cases q
  · obtain rfl := Option.some.inj q
    rw [hb] at hh; cases hh
theorem map_blk {W : World} {mb n g : Nat} {k t : TypeId} {cs : Array Value} {R : Value -> Option (DataW Unit × List MemPlace)} {D : DataW Unit} (h : W.ownsMap Tryz.prog k R mb n D) (hB : Blk W g t cs) : mb ≠ g := fun q => by
  obtain ⟨es, clock, hb, _⟩ := h
  subst q
  have := hb.symm.trans hB
  cases this
theorem heap_set_far (w : World) (p : Addr) (u : Value) {g : Nat} (h : g ≠ p.block) : (w.setCell p u).heap[g]? = w.heap[g]? := Below.heap_setCell w p u g h
theorem below_of_grown {w w' : World} {row : Option Nat} {N : Nat} (hN : N <= w.heap.size) (h : w.grownBy w' row) (hr : ∀ g, row = some g -> N <= g) : Below N w w' :=
  ⟨h.os, h.tape, h.output, h.size, fun k hk => h.block k (Nat.lt_of_lt_of_le hk hN) (fun e => by have := hr k e.symm; omega)⟩
section
variable {N0 bb : Nat} {W W' : World} {b : BB} {vc vl : Value} {mo : Option Nat}
theorem BParts.lt (h : BParts N0 W bb b vc vl mo) : N0 <= W.heap.size := Nat.le_of_lt (Nat.lt_of_le_of_lt h.ge h.blk.lt)
theorem BParts.mapNe (h : BParts N0 W bb b vc vl mo) {mb : Nat} (e : mo = some mb) : mb ≠ bb /\ some mb ≠ vc.ownBlock /\ some mb ≠ vl.ownBlock /\ mb < W.heap.size /\ N0 <= mb := by
  subst e
  obtain ⟨h1, DW, h2, _⟩ := h.places
  exact ⟨map_blk h2 h.blk, map_ne h2 h.code, map_ne h2 h.links, h2.lt, h1⟩
theorem BParts.below (h : BParts N0 W bb b vc vl mo) (hb : Below W.heap.size W W') : BParts N0 W' bb b vc vl mo :=
  ⟨h.blk.below hb h.blk.lt, h.ge, own_below h.code (Nat.le_refl _) hb, own_below h.links (Nat.le_refl _) hb, h.places.same fun mb e => hb.block mb (h.mapNe e).2.2.2.1⟩
theorem BI.below (h : BI N0 W bb b) (hb : Below W.heap.size W W') : BI N0 W' bb b := let ⟨vc, vl, mo, k⟩ := h; ⟨vc, vl, mo, k.below hb⟩
theorem BParts.addCode (h : BParts N0 W bb b vc vl mo) {v' : Value} {x : Ins} (hg : W.grownBy W' vc.ownBlock) (hr : W'.ownsRow N0 75 5 v' (b.code.length + 1) (b.code.flatMap Ins.cells ++ x.cells)) :
    BI N0 (W'.setCell ⟨bb, 0, none⟩ v') bb { b with code := b.code ++ [x] } /\ BelF N0 W (W'.setCell ⟨bb, 0, none⟩ v') := by
  have hB := h.blk.grown hg (row_ne h.blk h.code (by decide))
  have hne := row_ne hB hr (by decide)
  have hl := h.links.kept hg (by
    cases hq : vl.ownBlock with
    | none => exact .inl rfl
    | some g => exact .inr fun e => rows_ne h.links h.code (by decide) hq e)
  have hne2 := row_ne hB hl (by decide)
  refine ⟨⟨v', vl, mo, ⟨hB.set_ 0 v', h.ge, ?_, ?_, ?_⟩⟩, ?_⟩
  · rw [List.length_append, List.flatMap_append]
    refine own_same (by simpa using hr) fun g e => heap_set_far _ _ _ fun q => hne (by rw [e, q])
  · exact own_same hl fun g e => heap_set_far _ _ _ fun q => hne2 (by rw [e, q])
  · refine h.places.same fun mb e => ?_
    obtain ⟨m1, m2, m3, m4, m5⟩ := h.mapNe e
    exact (heap_set_far _ _ _ m1).trans (hg.block mb m4 m2)
  · have h1 := below_of_grown h.lt hg fun g e => (own_in h.code g e).1
    refine ⟨h1.trans ⟨rfl, rfl, rfl, by simp, fun k hk => heap_set_far _ _ _ fun q => by have := h.ge; simp at q; omega⟩, fun g t cs t1 t2 t3 hk => ?_⟩
    exact (hk.grown hg (row_ne hk h.code t2)).far (Blk.ne hk h.blk t1) _
theorem BParts.addLink (h : BParts N0 W bb b vc vl mo) {v' : Value} {x : Nat × List UInt8} (hg : W.grownBy W' vl.ownBlock) (hr : W'.ownsRow N0 184 2 v' (b.links.length + 1) (b.links.flatMap lkc ++ lkc x)) :
    BI N0 (W'.setCell ⟨bb, 2, none⟩ v') bb { b with links := b.links ++ [x] } /\ BelF N0 W (W'.setCell ⟨bb, 2, none⟩ v') := by
  have hB := h.blk.grown hg (row_ne h.blk h.links (by decide))
  have hne := row_ne hB hr (by decide)
  have hl := h.code.kept hg (by
    cases hq : vc.ownBlock with
    | none => exact .inl rfl
    | some g => exact .inr fun e => rows_ne h.code h.links (by decide) hq e)
  have hne2 := row_ne hB hl (by decide)
  refine ⟨⟨vc, v', mo, ⟨hB.set_ 2 v', h.ge, ?_, ?_, ?_⟩⟩, ?_⟩
  · exact own_same hl fun g e => heap_set_far _ _ _ fun q => hne2 (by rw [e, q])
  · rw [List.length_append, List.flatMap_append]
    refine own_same (by simpa using hr) fun g e => heap_set_far _ _ _ fun q => hne (by rw [e, q])
  · refine h.places.same fun mb e => ?_
    obtain ⟨m1, m2, m3, m4, m5⟩ := h.mapNe e
    exact (heap_set_far _ _ _ m1).trans (hg.block mb m4 m3)
  · have h1 := below_of_grown h.lt hg fun g e => (own_in h.links g e).1
    refine ⟨h1.trans ⟨rfl, rfl, rfl, by simp, fun k hk => heap_set_far _ _ _ fun q => by have := h.ge; simp at q; omega⟩, fun g t cs t1 t2 t3 hk => ?_⟩
    exact (hk.grown hg (row_ne hk h.links t3)).far (Blk.ne hk h.blk t1) _
theorem BParts.addMap (h : BParts N0 W bb b vc vl none) :
    BParts N0 ((W.alloc (.map #[] 0)).setCell ⟨bb, 1, none⟩ (.map (some W.heap.size))) bb b vc vl (some W.heap.size) /\ BelF N0 W ((W.alloc (.map #[] 0)).setCell ⟨bb, 1, none⟩ (.map (some W.heap.size))) := by
  have hB := h.blk.alloc (.map #[] 0)
  have hc := h.code.alloc (.map #[] 0)
  have hl := h.links.alloc (.map #[] 0)
  have n1 := row_ne hB hc (by decide)
  have n2 := row_ne hB hl (by decide)
  have hlt := h.blk.lt
  refine ⟨⟨hB.set_ 1 _, h.ge, ?_, ?_, ?_⟩, ?_⟩
  · exact own_same hc fun g e => heap_set_far _ _ _ fun q => n1 (by rw [e, q])
  · exact own_same hl fun g e => heap_set_far _ _ _ fun q => n2 (by rw [e, q])
  · have hp : b.places = [] := h.places
    rw [hp]
    exact (PlI.made N0 W h.lt).same fun mb e => heap_set_far _ _ _ fun q => by injection e with e; simp at q; omega
  · refine ⟨((Below.refl N0 W).alloc h.lt _).trans ⟨rfl, rfl, rfl, by simp, fun k hk => heap_set_far _ _ _ fun q => by have := h.ge; simp at q; omega⟩, fun g t cs t1 t2 t3 hk => ?_⟩
    exact (hk.alloc _).far (Blk.ne hk h.blk t1) _
theorem BParts.addPlace {mb : Nat} (h : BParts N0 W bb b vc vl (some mb)) (hg : W.grownBy W' (some mb)) {ps : List (List UInt8 × Nat)} (hp : PlI N0 W' (some mb) ps) :
    BI N0 W' bb { b with places := ps } /\ BelF N0 W W' := by
  obtain ⟨m1, m2, m3, m4, m5⟩ := h.mapNe rfl
  refine ⟨⟨vc, vl, some mb, ⟨h.blk.grown hg (by simpa using fun e => m1 e.symm), h.ge, ?_, ?_, hp⟩⟩, ⟨below_of_grown h.lt hg fun g e => by injection e with e; omega, fun g t cs t1 t2 t3 hk => hk.grown hg (by obtain ⟨_, DW, hq, _⟩ := h.places; intro e; injection e with e; exact map_blk hq hk e.symm)⟩⟩
  · exact h.code.kept hg (by cases hq : vc.ownBlock with | none => exact .inl rfl | some g => exact .inr fun e => m2 (by rw [hq, e]))
  · exact h.links.kept hg (by cases hq : vl.ownBlock with | none => exact .inl rfl | some g => exact .inr fun e => m3 (by rw [hq, e]))
end
end Go.Proofs.YtmhfpjnkjlhbpaaGreatDoor
