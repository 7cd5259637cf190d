/- asm.Builder: what holds of one in memory. -/
import Derived.Test.YtmhfpjnkjlhbpaaGreatDoorMStay
import Derived.Maps.Own
import Derived.Maps.OwnSet
import Derived.Maps.OwnOps
import Derived.WalkSpells
namespace Go.Proofs.YtmhfpjnkjlhbpaaGreatDoor
open Go.ChangeShapes Go.WideShapes Go.ChangeAt Go.RowKit Go.Deep
set_option linter.unusedVariables false
set_option maxRecDepth 100000
set_option linter.unusedSimpArgs false

theorem below_drewB (W : World) : Below W.heap.size W W.drew := ⟨rfl, rfl, rfl, Nat.le_refl _, fun _ _ => rfl⟩
theorem insB_info5 : (Tryz.prog.info? 75).map (fun i => (i.zero, i.size, i.bytes)) = some (some (.agg #[.int .i64 0, .int .i64 0, .int .i64 0, .int .i64 0, .int .u32 0]), 5, 40) := by kernel_rfl
/-- A builder: its code, its links (where, to which name), its places (the latest first). -/
structure BB where
  code : List Ins
  links : List (Nat × List UInt8)
  places : List (List UInt8 × Nat)
def str (s : List UInt8) : Value := .string ⟨s.toArray⟩
def lkc (x : Nat × List UInt8) : List Value := [.int .i64 (x.1 : Int), str x.2]

theorem key_law : Maps.Keyed Tryz.prog 9 := Maps.string_keyed Tryz.underlying9
theorem key_str {s : List UInt8} (h : s.length ≤ maxLen) : keyOf Tryz.prog 9 (str s) = some (.string s) := by
  have := Go.WideMaps.keyOf_string_mk (P := Tryz.prog) (k := 9) Tryz.underlying9 (s := ⟨s.toArray⟩) (show s.toArray.size ≤ maxLen from by simpa using h)
  simpa [str] using this

/-- The places, in memory. -/
def PlI (N0 : Nat) (W : World) : Option Nat → List (List UInt8 × Nat) → Prop
  | none, D => D = []
  | some mb, D => N0 ≤ mb ∧ ∃ DW : DataW Unit, W.ownsMap Tryz.prog 9 (plainElem Tryz.prog 3) mb D.length DW ∧ (∀ s, Maps.has DW (.string s) = (D.lookup s).isSome) ∧ ∀ s v, D.lookup s = some v → ∀ z, DW.atKey (.string s) z = .lit (.int .i64 (v : Int))

theorem map_same {w w' : World} {b n : Nat} {k : TypeId} {R : Value → Option (DataW Unit × List MemPlace)} {D : DataW Unit} (h : w.ownsMap Tryz.prog k R b n D) (hk : w'.heap[b]? = w.heap[b]?) : w'.ownsMap Tryz.prog k R b n D := by
  obtain ⟨es, clock, hb, q⟩ := h
  exact ⟨es, clock, hk.trans hb, q⟩
theorem PlI.same {N0 : Nat} {W W' : World} {mo : Option Nat} {D : List (List UInt8 × Nat)} (h : PlI N0 W mo D) (hk : ∀ mb, mo = some mb → W'.heap[mb]? = W.heap[mb]?) : PlI N0 W' mo D := by
  cases mo with
  | none => exact h
  | some mb => obtain ⟨h1, DW, h2, h3⟩ := h; exact ⟨h1, DW, map_same h2 (hk mb rfl), h3⟩
theorem PlI.made (N0 : Nat) (W : World) (hN : N0 ≤ W.heap.size) : PlI N0 (W.alloc (.map #[] 0)) (some W.heap.size) [] :=
  ⟨hN, .map [], World.ownsMap_made W _ _ _, fun s => rfl, fun s v e => by cases e⟩
theorem PlI.put {N0 : Nat} {W' : World} {mb : Nat} {D : List (List UInt8 × Nat)} {DW : DataW Unit} (h1 : N0 ≤ mb) (hm : Maps.IsMap DW) (h2 : ∀ s, Maps.has DW (.string s) = (D.lookup s).isSome) (h3 : ∀ s v, D.lookup s = some v → ∀ z, DW.atKey (.string s) z = .lit (.int .i64 (v : Int)))
    (s : List UInt8) (v : Nat) (h : W'.ownsMap Tryz.prog 9 (plainElem Tryz.prog 3) mb (D.length + 1) (DW.put (.string s) (.lit (.int .i64 (v : Int))))) : PlI N0 W' (some mb) ((s, v) :: D) := by
  refine ⟨h1, _, h, fun x => ?_, fun x u hx z => ?_⟩
  · by_cases e : x = s
    · subst e
      rw [Maps.has_put_same hm (show WideAt.IsKeyLit (.string x) from trivial)]; simp [List.lookup]
    · rw [Maps.has_put_other (fun q => e (by injection q)), h2]
      rw [List.lookup_cons, show (x == s) = false from by simpa using e]
  · by_cases e : x = s
    · subst e
      rw [Maps.atKey_put_same hm (show WideAt.IsKeyLit (.string x) from trivial)]
      simp [List.lookup] at hx
      rw [hx]
    · rw [Maps.atKey_put_other (fun q => e (by injection q))]
      rw [List.lookup_cons, show (x == s) = false from by simpa using e] at hx
      exact h3 x u hx z

/-- Blocks below N stay; and so do all blocks that are no builder's. -/
structure BelF (N : Nat) (W W' : World) : Prop where
  b : Below N W W'
  f : ∀ (g : Nat) (t : TypeId) (cs : Array Value), t ≠ 130 → t ≠ 75 → t ≠ 184 → Blk W g t cs → Blk W' g t cs
theorem BelF.refl (N : Nat) (W : World) : BelF N W W := ⟨Below.refl N W, fun _ _ _ _ _ _ h => h⟩
theorem BelF.trans {N : Nat} {A B C : World} (h : BelF N A B) (k : BelF N B C) : BelF N A C := ⟨h.b.trans k.b, fun g t cs h1 h2 h3 h4 => k.f g t cs h1 h2 h3 (h.f g t cs h1 h2 h3 h4)⟩
theorem BelF.of {N : Nat} {A B : World} (h : Below A.heap.size A B) (hN : N ≤ A.heap.size) : BelF N A B := ⟨h.mono hN, fun _ _ _ _ _ _ k => k.below h k.lt⟩
theorem BelF.size {N : Nat} {A B : World} (h : BelF N A B) : A.heap.size ≤ B.heap.size := h.b.size
/-- A builder, in memory: all that it owns lies from N0 on. -/
structure BParts (N0 : Nat) (W : World) (bb : Nat) (b : BB) (vc vl : Value) (mo : Option Nat) : Prop where
  blk : Blk W bb 130 #[vc, .map mo, vl, .bool false]
  ge : N0 ≤ bb
  code : W.ownsRow N0 75 5 vc b.code.length (b.code.flatMap Ins.cells)
  links : W.ownsRow N0 184 2 vl b.links.length (b.links.flatMap lkc)
  places : PlI N0 W mo b.places
def BI (N0 : Nat) (W : World) (bb : Nat) (b : BB) : Prop := ∃ vc vl mo, BParts N0 W bb b vc vl mo

theorem own_same {w w' : World} {base : Nat} {e : TypeId} {size n : Nat} {v : Value} {xs : List Value} (h : w.ownsRow base e size v n xs) (hk : ∀ g, v.ownBlock = some g → w'.heap[g]? = w.heap[g]?) : w'.ownsRow base e size v n xs := by
  refine ⟨h.1, ?_⟩
  rcases h.2 with hn | ⟨g, cap, cur, rfl, hb, hgg, rest⟩
  · exact .inl hn
  · exact .inr ⟨g, cap, cur, rfl, hb, (hk g rfl).trans hgg, rest⟩
theorem rows_ne {W : World} {n1 n2 s1 s2 k1 k2 : Nat} {e1 e2 : TypeId} {v1 v2 : Value} {x1 x2 : List Value} (h1 : W.ownsRow n1 e1 s1 v1 k1 x1) (h2 : W.ownsRow n2 e2 s2 v2 k2 x2) (hne : e1 ≠ e2) {g : Nat} (hg : v1.ownBlock = some g) : some g ≠ v2.ownBlock := fun q => by
  rcases h1.2 with ⟨rfl, _⟩ | ⟨g1, c1, u1, rfl, _, hh, _⟩
  · cases hg
  · obtain rfl := Option.some.inj hg
    exact row_ne (show Blk W g1 e1 u1 from hh) h2 hne q
theorem map_ne {W : World} {mb n n2 s2 k2 : Nat} {k : TypeId} {R : Value → Option (DataW Unit × List MemPlace)} {D : DataW Unit} {e2 : TypeId} {v2 : Value} {x2 : List Value} (h : W.ownsMap Tryz.prog k R mb n D) (h2 : W.ownsRow n2 e2 s2 v2 k2 x2) : some mb ≠ v2.ownBlock := fun q => by
  obtain ⟨es, clock, hb, _⟩ := h
  rcases h2.2 with ⟨rfl, _⟩ | ⟨g1, c1, u1, rfl, _, hh, _⟩
  · cases q
  · obtain rfl := Option.some.inj q
    rw [hb] at hh; cases hh
theorem map_blk {W : World} {mb n g : Nat} {k t : TypeId} {cs : Array Value} {R : Value → Option (DataW Unit × List MemPlace)} {D : DataW Unit} (h : W.ownsMap Tryz.prog k R mb n D) (hB : Blk W g t cs) : mb ≠ g := fun q => by
  obtain ⟨es, clock, hb, _⟩ := h
  subst q
  have := hb.symm.trans hB
  cases this

theorem heap_set_far (w : World) (p : Addr) (u : Value) {g : Nat} (h : g ≠ p.block) : (w.setCell p u).heap[g]? = w.heap[g]? := Below.heap_setCell w p u g h
theorem below_of_grown {w w' : World} {row : Option Nat} {N : Nat} (hN : N ≤ w.heap.size) (h : w.grownBy w' row) (hr : ∀ g, row = some g → N ≤ g) : Below N w w' :=
  ⟨h.os, h.tape, h.output, h.size, fun k hk => h.block k (Nat.lt_of_lt_of_le hk hN) (fun e => by have := hr k e.symm; omega)⟩

section
variable {N0 bb : Nat} {W W' : World} {b : BB} {vc vl : Value} {mo : Option Nat}
theorem BParts.lt (h : BParts N0 W bb b vc vl mo) : N0 ≤ W.heap.size := Nat.le_of_lt (Nat.lt_of_le_of_lt h.ge h.blk.lt)
theorem BParts.mapNe (h : BParts N0 W bb b vc vl mo) {mb : Nat} (e : mo = some mb) : mb ≠ bb ∧ some mb ≠ vc.ownBlock ∧ some mb ≠ vl.ownBlock ∧ mb < W.heap.size ∧ N0 ≤ mb := by
  subst e
  obtain ⟨h1, DW, h2, _⟩ := h.places
  exact ⟨map_blk h2 h.blk, map_ne h2 h.code, map_ne h2 h.links, h2.lt, h1⟩
/-- Other blocks are made. -/
theorem BParts.below (h : BParts N0 W bb b vc vl mo) (hb : Below W.heap.size W W') : BParts N0 W' bb b vc vl mo :=
  ⟨h.blk.below hb h.blk.lt, h.ge, own_below h.code (Nat.le_refl _) hb, own_below h.links (Nat.le_refl _) hb, h.places.same fun mb e => hb.block mb (h.mapNe e).2.2.2.1⟩
theorem BI.below (h : BI N0 W bb b) (hb : Below W.heap.size W W') : BI N0 W' bb b := let ⟨vc, vl, mo, k⟩ := h; ⟨vc, vl, mo, k.below hb⟩
/-- The code has grown. -/
theorem BParts.addCode (h : BParts N0 W bb b vc vl mo) {v' : Value} {x : Ins} (hg : W.grownBy W' vc.ownBlock) (hr : W'.ownsRow N0 75 5 v' (b.code.length + 1) (b.code.flatMap Ins.cells ++ x.cells)) :
    BI N0 (W'.setCell ⟨bb, 0, none⟩ v') bb { b with code := b.code ++ [x] } ∧ BelF N0 W (W'.setCell ⟨bb, 0, none⟩ v') := by
  have hB := h.blk.grown hg (row_ne h.blk h.code (by decide))
  have hne := row_ne hB hr (by decide)
  have hl := h.links.kept hg (by
    cases hq : vl.ownBlock with
    | none => exact .inl rfl
    | some g => exact .inr fun e => rows_ne h.links h.code (by decide) hq e)
  have hne2 := row_ne hB hl (by decide)
  refine ⟨⟨v', vl, mo, ⟨hB.set_ 0 v', h.ge, ?_, ?_, ?_⟩⟩, ?_⟩
  · rw [List.length_append, List.flatMap_append]
    refine own_same (by simpa using hr) fun g e => heap_set_far _ _ _ fun q => hne (by rw [e, q])
  · exact own_same hl fun g e => heap_set_far _ _ _ fun q => hne2 (by rw [e, q])
  · refine h.places.same fun mb e => ?_
    obtain ⟨m1, m2, m3, m4, m5⟩ := h.mapNe e
    exact (heap_set_far _ _ _ m1).trans (hg.block mb m4 m2)
  · have h1 := below_of_grown h.lt hg fun g e => (own_in h.code g e).1
    refine ⟨h1.trans ⟨rfl, rfl, rfl, by simp, fun k hk => heap_set_far _ _ _ fun q => by have := h.ge; simp at q; omega⟩, fun g t cs t1 t2 t3 hk => ?_⟩
    exact (hk.grown hg (row_ne hk h.code t2)).far (Blk.ne hk h.blk t1) _
/-- The links have grown. -/
theorem BParts.addLink (h : BParts N0 W bb b vc vl mo) {v' : Value} {x : Nat × List UInt8} (hg : W.grownBy W' vl.ownBlock) (hr : W'.ownsRow N0 184 2 v' (b.links.length + 1) (b.links.flatMap lkc ++ lkc x)) :
    BI N0 (W'.setCell ⟨bb, 2, none⟩ v') bb { b with links := b.links ++ [x] } ∧ BelF N0 W (W'.setCell ⟨bb, 2, none⟩ v') := by
  have hB := h.blk.grown hg (row_ne h.blk h.links (by decide))
  have hne := row_ne hB hr (by decide)
  have hl := h.code.kept hg (by
    cases hq : vc.ownBlock with
    | none => exact .inl rfl
    | some g => exact .inr fun e => rows_ne h.code h.links (by decide) hq e)
  have hne2 := row_ne hB hl (by decide)
  refine ⟨⟨vc, v', mo, ⟨hB.set_ 2 v', h.ge, ?_, ?_, ?_⟩⟩, ?_⟩
  · exact own_same hl fun g e => heap_set_far _ _ _ fun q => hne2 (by rw [e, q])
  · rw [List.length_append, List.flatMap_append]
    refine own_same (by simpa using hr) fun g e => heap_set_far _ _ _ fun q => hne (by rw [e, q])
  · refine h.places.same fun mb e => ?_
    obtain ⟨m1, m2, m3, m4, m5⟩ := h.mapNe e
    exact (heap_set_far _ _ _ m1).trans (hg.block mb m4 m3)
  · have h1 := below_of_grown h.lt hg fun g e => (own_in h.links g e).1
    refine ⟨h1.trans ⟨rfl, rfl, rfl, by simp, fun k hk => heap_set_far _ _ _ fun q => by have := h.ge; simp at q; omega⟩, fun g t cs t1 t2 t3 hk => ?_⟩
    exact (hk.grown hg (row_ne hk h.links t3)).far (Blk.ne hk h.blk t1) _
/-- The map is made. -/
theorem BParts.addMap (h : BParts N0 W bb b vc vl none) :
    BParts N0 ((W.alloc (.map #[] 0)).setCell ⟨bb, 1, none⟩ (.map (some W.heap.size))) bb b vc vl (some W.heap.size) ∧ BelF N0 W ((W.alloc (.map #[] 0)).setCell ⟨bb, 1, none⟩ (.map (some W.heap.size))) := by
  have hB := h.blk.alloc (.map #[] 0)
  have hc := h.code.alloc (.map #[] 0)
  have hl := h.links.alloc (.map #[] 0)
  have n1 := row_ne hB hc (by decide)
  have n2 := row_ne hB hl (by decide)
  have hlt := h.blk.lt
  refine ⟨⟨hB.set_ 1 _, h.ge, ?_, ?_, ?_⟩, ?_⟩
  · exact own_same hc fun g e => heap_set_far _ _ _ fun q => n1 (by rw [e, q])
  · exact own_same hl fun g e => heap_set_far _ _ _ fun q => n2 (by rw [e, q])
  · have hp : b.places = [] := h.places
    rw [hp]
    exact (PlI.made N0 W h.lt).same fun mb e => heap_set_far _ _ _ fun q => by injection e with e; simp at q; omega
  · refine ⟨((Below.refl N0 W).alloc h.lt _).trans ⟨rfl, rfl, rfl, by simp, fun k hk => heap_set_far _ _ _ fun q => by have := h.ge; simp at q; omega⟩, fun g t cs t1 t2 t3 hk => ?_⟩
    exact (hk.alloc _).far (Blk.ne hk h.blk t1) _
/-- A place is put. -/
theorem BParts.addPlace {mb : Nat} (h : BParts N0 W bb b vc vl (some mb)) (hg : W.grownBy W' (some mb)) {ps : List (List UInt8 × Nat)} (hp : PlI N0 W' (some mb) ps) :
    BI N0 W' bb { b with places := ps } ∧ BelF N0 W W' := by
  obtain ⟨m1, m2, m3, m4, m5⟩ := h.mapNe rfl
  refine ⟨⟨vc, vl, some mb, ⟨h.blk.grown hg (by simpa using fun e => m1 e.symm), h.ge, ?_, ?_, hp⟩⟩, ⟨below_of_grown h.lt hg fun g e => by injection e with e; omega, fun g t cs t1 t2 t3 hk => hk.grown hg (by obtain ⟨_, DW, hq, _⟩ := h.places; intro e; injection e with e; exact map_blk hq hk e.symm)⟩⟩
  · exact h.code.kept hg (by cases hq : vc.ownBlock with | none => exact .inl rfl | some g => exact .inr fun e => m2 (by rw [hq, e]))
  · exact h.links.kept hg (by cases hq : vl.ownBlock with | none => exact .inl rfl | some g => exact .inr fun e => m3 (by rw [hq, e]))
end
end Go.Proofs.YtmhfpjnkjlhbpaaGreatDoor
