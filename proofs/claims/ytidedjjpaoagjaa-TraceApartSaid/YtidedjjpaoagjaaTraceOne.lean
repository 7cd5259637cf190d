/- The document's call that begins at a place. -/
import Derived.Test.YtidedjjpaoagjaaTraceOutsL
namespace Go.Proofs.Ytidedjjpaoagjaa
open Go.ChangeShapes Go.WideShapes Go.ChangeAt Go.RowKit Go.Deep
set_option linter.unusedVariables false
set_option linter.unusedSimpArgs false

def oneK (E : Nat → Ev) (at_ k : Nat) : Cl × Bool := (evFrom E (at_ + 1) k).foldl ostep (newC E at_, true)
theorem oneK_succ (E : Nat → Ev) (at_ k : Nat) : oneK E at_ (k + 1) = ostep (oneK E at_ k) (at_ + 1 + k, E (at_ + 1 + k)) := by
  unfold oneK
  rw [evFrom_succ, List.foldl_append]
  rfl
theorem oneK_off (E : Nat → Ev) (at_ k : Nat) (h : (oneK E at_ k).2 = false) : ∀ j, oneK E at_ (k + j) = oneK E at_ k
  | 0 => rfl
  | j + 1 => by
    rw [← Nat.add_assoc, oneK_succ, oneK_off E at_ k h j, ostep_off h]
theorem oneK_all (E : Nat → Ev) (at_ len : Nat) : oneS E len at_ = oneK E at_ (len - (at_ + 1)) := rfl
theorem oneK_len (E : Nat → Ev) (at_ : Nat) : ∀ k, (oneK E at_ k).1.inner.length ≤ k
  | 0 => Nat.zero_le _
  | k + 1 => by
    rw [oneK_succ]
    have := oneK_len E at_ k
    generalize oneK E at_ k = s at this ⊢
    unfold ostep
    repeat' split
    all_goals simp
    all_goals omega
def callV (c : Cl) (iv : Value) : Value := .agg #[.int .i64 c.site, .int .i64 c.who, .int .i64 c.began, .int .i64 c.ended, .int .u32 c.result, iv]
def InnR (W : World) (base : Nat) (p : CV) : Prop := W.ownsRow base 3 1 p.2 p.1.inner.length (p.1.inner.map (Value.int .i64))
def OneRes (E : Nat → Ev) (len at_ : Nat) (w : World) (e : Ending) (W' : World) : Prop :=
  ∃ A2 n2 c2, e = .returned (callV (oneS E len at_).1 (.slice A2 n2 c2)) ∧ InnR W' w.heap.size ((oneS E len at_).1, .slice A2 n2 c2) ∧ Below w.heap.size w W'
theorem row_inn {W : World} {base lo hi : Nat} {c : Cl} {v : Value} (h : W.ownsRow base 3 1 v c.inner.length (c.inner.map (Value.int .i64))) (h1 : lo ≤ base) (h2 : W.heap.size ≤ hi) : INN W lo hi (c, v) := by
  obtain ⟨A, cap, e, hc1, hc2⟩ := own_cap h
  refine ⟨A, cap, e, hc1, fun hp => ?_⟩
  rcases h.2 with ⟨_, e0⟩ | ⟨g, cap', cur, e0, hg, hh, _⟩
  · dsimp only at hp; omega
  · rw [e0] at e
    simp only [Value.slice.injEq] at e
    obtain ⟨rfl, _, _⟩ := e
    have hlt : g < W.heap.size := own_lt h g (by rw [e0]; rfl)
    refine ⟨g, 0, rfl, by omega, by omega, fun k hk => ?_⟩
    dsimp only at hk
    rw [e0] at h
    rw [Nat.zero_add, World.ownsRow.cellAt h _ (by omega)]
    dsimp only
    simp [List.getD_eq_getElem?_getD, List.getElem?_eq_getElem hk]

def callRow (c : Cl) (iv : Value) : Array Value := #[.int .i64 c.site, .int .i64 c.who, .int .i64 c.began, .int .i64 c.ended, .int .u32 c.result, iv]
/-- What holds between two rounds: the result's block, the call's block, its inner row. -/
structure OI (E : Nat → Ev) (at_ : Nat) (w W : World) (k : Nat) (c : Cl) (iv : Value) : Prop where
  st : oneK E at_ k = (c, true)
  rb : Blk W w.heap.size 40 #[.int .i64 0, .int .i64 0, .int .i64 0, .int .i64 0, .int .u32 0, .slice none 0 0]
  cb : Blk W (w.heap.size + 1) 40 (callRow c iv)
  row : W.ownsRow (w.heap.size + 2) 3 1 iv c.inner.length (c.inner.map (Value.int .i64))
  below : Below w.heap.size w W
  hz : w.heap.size + 2 ≤ W.heap.size

theorem OI.skip {E : Nat → Ev} {at_ k : Nat} {w W : World} {c : Cl} {iv : Value} (h : OI E at_ w W k c iv) (e : ostep (c, true) (at_ + 1 + k, E (at_ + 1 + k)) = (c, true)) : OI E at_ w W (k + 1) c iv :=
  ⟨by rw [oneK_succ, h.st, e], h.rb, h.cb, h.row, h.below, h.hz⟩
theorem OI.drewN {E : Nat → Ev} {at_ k : Nat} {w W : World} {c : Cl} {iv : Value} (h : OI E at_ w W k c iv) (n : Nat) : OI E at_ w (W.drewN n) k c iv :=
  ⟨h.st, h.rb, h.cb, h.row, h.below.grown (grew_drewN W n) h.below.size (fun r e => by cases e), h.hz⟩
theorem OI.inner {E : Nat → Ev} {at_ k : Nat} {w W w5 : World} {c : Cl} {iv iv' : Value} {o : Obj} {z : Int} (h : OI E at_ w W k c iv) (e : ostep (c, true) (at_ + 1 + k, E (at_ + 1 + k)) = ({ c with inner := c.inner ++ [z] }, true))
    (hg : (W.alloc o).grownBy w5 iv.ownBlock) (hown : w5.ownsRow (w.heap.size + 2) 3 1 iv' (c.inner.length + 1) (c.inner.map (Value.int .i64) ++ [.int .i64 z])) :
    OI E at_ w (w5.setCell ⟨w.heap.size + 1, 5, none⟩ iv') (k + 1) { c with inner := c.inner ++ [z] } iv' := by
  have hk := grow_keep h.row hg h.hz
  have hb5 := below_own (h.below.alloc h.below.size _) (h.row.alloc _) hg (by omega) (Nat.le_refl _)
  have h5z := hg.size
  simp only [World.size_alloc] at h5z
  have hz := h.hz
  refine ⟨by rw [oneK_succ, h.st, e], ?_, ?_, ?_, hb5.setCell (by show w.heap.size ≤ w.heap.size + 1; omega) _, by simp [World.setCell]; omega⟩
  · exact Blk.far ((hk _ (by omega)).trans h.rb) (by show w.heap.size ≠ w.heap.size + 1; omega) _
  · have := Blk.set_ (show Blk w5 (w.heap.size + 1) _ _ from (hk _ (by omega)).trans h.cb) 5 iv'
    exact this
  · rw [List.length_append, List.map_append]
    exact own_grown hown (set_only _) (by omega)
theorem one_end {E : Nat → Ev} {len at_ : Nat} {w W W' : World} {c : Cl} {iv : Value} (hc : (oneS E len at_).1 = c) (hrow : W.ownsRow (w.heap.size + 2) 3 1 iv c.inner.length (c.inner.map (Value.int .i64))) (hb : Below w.heap.size w W)
    (hg : W.grownBy W' (some w.heap.size)) (hz : w.heap.size + 2 ≤ W.heap.size) : OneRes E len at_ w (.returned (callV c iv)) W' := by
  obtain ⟨A, cap, rfl, _, _⟩ := own_cap hrow
  refine ⟨A, _, cap, by rw [hc], ?_, hb.grown hg hb.size (fun r e => by cases e; exact Nat.le_refl _)⟩
  rw [hc]
  exact own_base (own_grown hrow hg (by omega)) (by omega)

set_option maxRecDepth 100000 in
set_option maxHeartbeats 4000000 in
theorem one_any (A : Option Addr) (len cap : Nat) (E : Nat → Ev) (at_ : Nat) (hl : len ≤ 100000) (hat : at_ < len) (w : World) (hs : SlE w A len 8 (fun i => (E i).cells)) :
    Calls Try.prog 21 #[.slice A len cap, .int .i64 (at_ : Int)] w (OneRes E len at_ w) := by
  obtain ⟨i0, hi, hz0, hz1, hz2'⟩ := info_parts int_info
  have HS := Lib.hid hs
  obtain ⟨b, off, rfl, hbw, hc⟩ := hs (by omega)
  obtain ⟨x, hx⟩ : ∃ x, E at_ = x := ⟨_, rfl⟩
  have hca : ∀ j u, (E at_).cells[j]? = some u → w.cell? ⟨b, off + at_ * 8 + j, none⟩ = some u := hc at_ hat
  rw [hx] at hca
  have c1' := hca 1 _ rfl
  have c6' := hca 6 _ rfl
  clear hca hs
  have hkv0 := x.k0
  have hkv1 := x.k1
  have hat' : (at_ : Int) < (len : Int) := by omega
  have hat0 : (0 : Int) ≤ (at_ : Int) := by omega
  have hdiv := Int.ediv_nonneg hkv0 (show (0 : Int) ≤ 2 by decide)
  have hw2 : x.k / 2 ≤ 2147483647 := by omega
  have hr0 := Blk.new w 40 #[.int .i64 0, .int .i64 0, .int .i64 0, .int .i64 0, .int .u32 0, .slice none 0 0]
  have hB0 := (Below.refl w.heap.size w).alloc (Nat.le_refl _) (.cells #[.int .i64 0, .int .i64 0, .int .i64 0, .int .i64 0, .int .u32 0, .slice none 0 0] 40)
  have hz := World.size_alloc w (.cells #[.int .i64 0, .int .i64 0, .int .i64 0, .int .i64 0, .int .u32 0, .slice none 0 0] 40)
  have HX := Lib.hid hx
  clear hx
  go_enter Try.func21, Try.ntmps21
  go_upto_region 1 with fail
  have hr1 := hr0.drew
  have hB1 := hB0.drew
  have hz1' : (w.alloc (.cells #[.int .i64 0, .int .i64 0, .int .i64 0, .int .i64 0, .int .u32 0, .slice none 0 0] 40)).drew.heap.size = w.heap.size + 1 := hz
  clear hr0 hB0 hz
  refine startG (fun W' => Below (w.alloc (.cells #[.int .i64 0, .int .i64 0, .int .i64 0, .int .i64 0, .int .u32 0, .slice none 0 0] 40)).drew.heap.size (w.alloc (.cells #[.int .i64 0, .int .i64 0, .int .i64 0, .int .i64 0, .int .u32 0, .slice none 0 0] 40)).drew W') 15 (by kernel_rfl) ?_
  generalize (w.alloc (.cells #[.int .i64 0, .int .i64 0, .int .i64 0, .int .i64 0, .int .u32 0, .slice none 0 0] 40)).drew = W0 at hr1 hB1 hz1' ⊢
  have hbl : b < W0.heap.size := by omega
  have c1 := keepAt hB1 hbw c1'
  have c6 := keepAt hB1 hbw c6'
  have hS0 := Below.refl W0.heap.size W0
  have hW13 : IntKind.u32.wrap (x.k / 2) = x.k / 2 := IntWalk.u32_in _ (by omega)
  have hW14 : IntKind.i64.wrap (x.k / 2) = x.k / 2 := IntWalk.i64_in _ (by omega)
  have htd : Int.tdiv x.k 2 = x.k / 2 := Int.tdiv_eq_ediv_of_nonneg hkv0
  simp only [List.size_toArray, List.length_cons, List.length_nil, Nat.reduceAdd, Array.replicate_succ, Array.replicate_zero, List.push_toArray, List.nil_append, List.cons_append]
  refine takeG (i := 0) (v := .slice (some ⟨b, off, none⟩) len cap) rfl (by kernel_rfl) (by kernel_rfl) (by kernel_rfl) (by kernel_rfl) (fun _ _ _ h => h) (Or.inl ⟨by rfl, fun W hW => by have hB9 : Below W0.heap.size W0 W := hW; have d1 := keepAt hB9 hbl c1; have d6 := keepAt hB9 hbl c6; go_simp⟩) hS0 ?_
  simp only [Act.put, List.getElem_toArray, List.getElem_cons_zero, List.getElem_cons_succ, List.setIfInBounds_toArray, List.set_cons_zero, List.set_cons_succ]
  refine takeG (i := 1) (v := .int .i64 (at_ : Int)) rfl (by kernel_rfl) (by kernel_rfl) (by kernel_rfl) (by kernel_rfl) (fun _ _ _ h => h) (Or.inl ⟨by rfl, fun W hW => by have hB9 : Below W0.heap.size W0 W := hW; have d1 := keepAt hB9 hbl c1; have d6 := keepAt hB9 hbl c6; go_simp⟩) hS0 ?_
  simp only [Act.put, List.getElem_toArray, List.getElem_cons_zero, List.getElem_cons_succ, List.setIfInBounds_toArray, List.set_cons_zero, List.set_cons_succ]
  refine takeG (i := 2) (v := .pointer (some ⟨b, off + at_ * 8, none⟩)) rfl (by kernel_rfl) (by kernel_rfl) (by kernel_rfl) (by kernel_rfl) (fun _ _ _ h => h) (Or.inl ⟨by rfl, fun W hW => by have hB9 : Below W0.heap.size W0 W := hW; have d1 := keepAt hB9 hbl c1; have d6 := keepAt hB9 hbl c6; go_simp⟩) hS0 ?_
  simp only [Act.put, List.getElem_toArray, List.getElem_cons_zero, List.getElem_cons_succ, List.setIfInBounds_toArray, List.set_cons_zero, List.set_cons_succ]
  refine takeG (i := 3) (v := .pointer (some ⟨b, off + at_ * 8 + 6, none⟩)) rfl (by kernel_rfl) (by kernel_rfl) (by kernel_rfl) (by kernel_rfl) (fun _ _ _ h => h) (Or.inl ⟨by rfl, fun W hW => by have hB9 : Below W0.heap.size W0 W := hW; have d1 := keepAt hB9 hbl c1; have d6 := keepAt hB9 hbl c6; go_simp⟩) hS0 ?_
  simp only [Act.put, List.getElem_toArray, List.getElem_cons_zero, List.getElem_cons_succ, List.setIfInBounds_toArray, List.set_cons_zero, List.set_cons_succ]
  refine takeG (i := 4) (v := .int .u32 x.k) rfl (by kernel_rfl) (by kernel_rfl) (by kernel_rfl) (by kernel_rfl) (fun _ _ _ h => h) (Or.inl ⟨by rfl, fun W hW => by have hB9 : Below W0.heap.size W0 W := hW; have d1 := keepAt hB9 hbl c1; have d6 := keepAt hB9 hbl c6; go_simp⟩) hS0 ?_
  simp only [Act.put, List.getElem_toArray, List.getElem_cons_zero, List.getElem_cons_succ, List.setIfInBounds_toArray, List.set_cons_zero, List.set_cons_succ]
  refine takeG (i := 5) (v := .int .u32 (x.k / 2)) rfl (by kernel_rfl) (by kernel_rfl) (by kernel_rfl) (by kernel_rfl) (fun _ _ _ h => h) (Or.inl ⟨by rfl, fun W hW => by have hB9 : Below W0.heap.size W0 W := hW; have d1 := keepAt hB9 hbl c1; have d6 := keepAt hB9 hbl c6; go_simp⟩) hS0 ?_
  simp only [Act.put, List.getElem_toArray, List.getElem_cons_zero, List.getElem_cons_succ, List.setIfInBounds_toArray, List.set_cons_zero, List.set_cons_succ]
  refine takeG (i := 6) (v := .int .i64 (x.k / 2)) rfl (by kernel_rfl) (by kernel_rfl) (by kernel_rfl) (by kernel_rfl) (fun _ _ _ h => h) (Or.inl ⟨by rfl, fun W hW => by have hB9 : Below W0.heap.size W0 W := hW; have d1 := keepAt hB9 hbl c1; have d6 := keepAt hB9 hbl c6; go_simp⟩) hS0 ?_
  simp only [Act.put, List.getElem_toArray, List.getElem_cons_zero, List.getElem_cons_succ, List.setIfInBounds_toArray, List.set_cons_zero, List.set_cons_succ]
  refine takeG (i := 7) (v := .slice (some ⟨b, off, none⟩) len cap) rfl (by kernel_rfl) (by kernel_rfl) (by kernel_rfl) (by kernel_rfl) (fun _ _ _ h => h) (Or.inl ⟨by rfl, fun W hW => by have hB9 : Below W0.heap.size W0 W := hW; have d1 := keepAt hB9 hbl c1; have d6 := keepAt hB9 hbl c6; go_simp⟩) hS0 ?_
  simp only [Act.put, List.getElem_toArray, List.getElem_cons_zero, List.getElem_cons_succ, List.setIfInBounds_toArray, List.set_cons_zero, List.set_cons_succ]
  refine takeG (i := 8) (v := .int .i64 (at_ : Int)) rfl (by kernel_rfl) (by kernel_rfl) (by kernel_rfl) (by kernel_rfl) (fun _ _ _ h => h) (Or.inl ⟨by rfl, fun W hW => by have hB9 : Below W0.heap.size W0 W := hW; have d1 := keepAt hB9 hbl c1; have d6 := keepAt hB9 hbl c6; go_simp⟩) hS0 ?_
  simp only [Act.put, List.getElem_toArray, List.getElem_cons_zero, List.getElem_cons_succ, List.setIfInBounds_toArray, List.set_cons_zero, List.set_cons_succ]
  refine takeG (i := 9) (v := .pointer (some ⟨b, off + at_ * 8, none⟩)) rfl (by kernel_rfl) (by kernel_rfl) (by kernel_rfl) (by kernel_rfl) (fun _ _ _ h => h) (Or.inl ⟨by rfl, fun W hW => by have hB9 : Below W0.heap.size W0 W := hW; have d1 := keepAt hB9 hbl c1; have d6 := keepAt hB9 hbl c6; go_simp⟩) hS0 ?_
  simp only [Act.put, List.getElem_toArray, List.getElem_cons_zero, List.getElem_cons_succ, List.setIfInBounds_toArray, List.set_cons_zero, List.set_cons_succ]
  refine takeG (i := 10) (v := .pointer (some ⟨b, off + at_ * 8 + 1, none⟩)) rfl (by kernel_rfl) (by kernel_rfl) (by kernel_rfl) (by kernel_rfl) (fun _ _ _ h => h) (Or.inl ⟨by rfl, fun W hW => by have hB9 : Below W0.heap.size W0 W := hW; have d1 := keepAt hB9 hbl c1; have d6 := keepAt hB9 hbl c6; go_simp⟩) hS0 ?_
  simp only [Act.put, List.getElem_toArray, List.getElem_cons_zero, List.getElem_cons_succ, List.setIfInBounds_toArray, List.set_cons_zero, List.set_cons_succ]
  refine takeG (i := 11) (v := .int .i64 x.who) rfl (by kernel_rfl) (by kernel_rfl) (by kernel_rfl) (by kernel_rfl) (fun _ _ _ h => h) (Or.inl ⟨by rfl, fun W hW => by have hB9 : Below W0.heap.size W0 W := hW; have d1 := keepAt hB9 hbl c1; have d6 := keepAt hB9 hbl c6; go_simp⟩) hS0 ?_
  simp only [Act.put, List.getElem_toArray, List.getElem_cons_zero, List.getElem_cons_succ, List.setIfInBounds_toArray, List.set_cons_zero, List.set_cons_succ]
  refine takeG (i := 12) (v := .int .i64 (at_ : Int)) rfl (by kernel_rfl) (by kernel_rfl) (by kernel_rfl) (by kernel_rfl) (fun _ _ _ h => h) (Or.inl ⟨by rfl, fun W hW => by have hB9 : Below W0.heap.size W0 W := hW; have d1 := keepAt hB9 hbl c1; have d6 := keepAt hB9 hbl c6; go_simp⟩) hS0 ?_
  simp only [Act.put, List.getElem_toArray, List.getElem_cons_zero, List.getElem_cons_succ, List.setIfInBounds_toArray, List.set_cons_zero, List.set_cons_succ]
  refine takeG (i := 13) (v := .agg #[.int .i64 (x.k / 2), .int .i64 x.who, .int .i64 (at_ : Int), .int .i64 (-1), .int .u32 0, .slice none 0 0]) rfl (by kernel_rfl) (by kernel_rfl) (by kernel_rfl) (by kernel_rfl) (fun _ _ _ h => h) (Or.inl ⟨by rfl, fun W hW => by have hB9 : Below W0.heap.size W0 W := hW; have d1 := keepAt hB9 hbl c1; have d6 := keepAt hB9 hbl c6; go_simp⟩) hS0 ?_
  simp only [Act.put, List.getElem_toArray, List.getElem_cons_zero, List.getElem_cons_succ, List.setIfInBounds_toArray, List.set_cons_zero, List.set_cons_succ]
  refine onlyG (i := 14) (by kernel_rfl) rfl ?_
  intro K hK
  go_simp
  refine hK.out _ _ (hS0.alloc (Nat.le_refl _) _) (fun hS1 => ?_)
  clear hK K
  simp only [Act.put, List.getElem_toArray, List.getElem_cons_zero, List.getElem_cons_succ, List.setIfInBounds_toArray, List.set_cons_zero, List.set_cons_succ]
  have hr2 := hr1.alloc (.cells #[.int .i64 0, .int .i64 0, .int .i64 0, .int .i64 0, .int .u32 0, .slice none 0 0] 40)
  have hb2 := Blk.new W0 40 #[.int .i64 0, .int .i64 0, .int .i64 0, .int .i64 0, .int .u32 0, .slice none 0 0]
  have hB2 := hB1.alloc (by omega) (.cells #[.int .i64 0, .int .i64 0, .int .i64 0, .int .i64 0, .int .u32 0, .slice none 0 0] 40)
  have hz2q := World.size_alloc W0 (.cells #[.int .i64 0, .int .i64 0, .int .i64 0, .int .i64 0, .int .u32 0, .slice none 0 0] 40)
  rw [hz1'] at hb2 hz2q ⊢
  clear hS1
  generalize W0.alloc (.cells #[.int .i64 0, .int .i64 0, .int .i64 0, .int .i64 0, .int .u32 0, .slice none 0 0] 40) = W1 at hr2 hb2 hB2 hz2q ⊢
  refine lastG (by kernel_rfl) rfl (by kernel_rfl) ?_
  intro K hK
  simp only [List.getElem_toArray, List.getElem_cons_zero, List.getElem_cons_succ]
  rw [if_pos (by rfl)]
  refine wp_store_mid 40 (.tmp 5) (.tmp 20) rfl (w.heap.size + 1) 0 #[.int .i64 (x.k / 2), .int .i64 x.who, .int .i64 (at_ : Int), .int .i64 (-1), .int .u32 0, .slice none 0 0] rfl rfl (hb2.there 0 _ (Nat.le_refl _)) (by kernel_rfl) (by simp [Value.oneCell']) ?_
  obtain ⟨hb3, hg3⟩ := setCells_whole hb2 (cells := #[.int .i64 (x.k / 2), .int .i64 x.who, .int .i64 (at_ : Int), .int .i64 (-1), .int .u32 0, .slice none 0 0]) rfl
  have hr3 := hr2.grown hg3 (fun e => by injection e with e; omega)
  have hB3 := below_row hB2 hg3 (by omega) (by omega)
  have hz3 := Nat.le_trans (Nat.le_of_eq hz2q.symm) hg3.size
  generalize W1.setCells (w.heap.size + 1) 0 _ = W3 at hb3 hg3 hr3 hB3 hz3 ⊢
  refine hK.out _ _ ?_
  clear hK K
  simp only [Act.put, List.getElem_toArray, List.getElem_cons_zero, List.getElem_cons_succ, List.setIfInBounds_toArray, List.set_cons_zero, List.set_cons_succ]
  clear hg3 hB2 hz2q hb2 hr2 hB1 hr1 hS0 c1 c6 hW13 hW14 htd hdiv hw2
  go_wp2
  go_loopw [6] (fun i wr => ∃ (j k : Nat) (c : Cl) (iv : Value), Hid (j = at_ + 1 + k) ∧ j ≤ len ∧ i = .int .i64 (j : Int) ∧ OI E at_ w wr k c iv) (fun i _ => len - (intOf i).toNat)
  case atStart => 
    refine ⟨at_ + 1, 0, ⟨x.k / 2, x.who, (at_ : Int), -1, 0, []⟩, .slice none 0 0, Lib.hid rfl, by omega, by go_num, ?_, hr3, hb3, World.ownsRow_nil _ _ _ _, hB3, by omega⟩
    show (newC E at_, true) = _
    unfold newC
    rw [HX.out]
  case round =>
    clear hr3 hB3 hz3 hb3
    obtain ⟨j, k, c, iv, hjk, hj, rfl, hO⟩ := hrel
    have hcb := hO.cb
    have hrb := hO.rb
    unfold callRow at hcb
    have hbl : b < wr.heap.size := Nat.lt_of_lt_of_le hbw hO.below.size
    obtain ⟨iA, ic, hiv, _, _⟩ := own_cap hO.row
    have hil : c.inner.length ≤ k := by
      have := oneK_len E at_ k
      rw [hO.st] at this
      exact this
    obtain ⟨il, hil2⟩ : ∃ il, c.inner.length = il := ⟨_, rfl⟩
    have hrow := hO.row
    rw [hil2] at hiv hrow hil
    subst hiv
    by_cases hlt : j < len
    · have hlt' : (j : Int) < (len : Int) := by omega
      have hj0 : (0 : Int) ≤ (j : Int) := by omega
      obtain ⟨y, hy⟩ : ∃ y, E j = y := ⟨_, rfl⟩
      have hca : ∀ i u, y.cells[i]? = some u → wr.cell? ⟨b, off + j * 8 + i, none⟩ = some u := fun i u hu => keepAt hO.below hbw (hc j hlt i u (by rw [hy]; exact hu))
      have y0 := hca 0 _ rfl
      have y1 := hca 1 _ rfl
      have y4 := hca 4 _ rfl
      have y6 := hca 6 _ rfl
      rw [Nat.add_zero] at y0
      have k0 := hcb.cell 0
      have k1 := hcb.cell 1
      have k5 := hcb.cell 5
      have kf := hcb.frozen 5
      simp only [List.getElem?_toArray, List.getElem?_cons_zero, List.getElem?_cons_succ] at k0 k1 k5
      have hyv0 := y.k0
      have hyv1 := y.k1
      have HST : Hid (∀ s, ostep (c, true) (j, y) = s → oneK E at_ (k + 1) = s) := Lib.hid (fun s hs => by rw [oneK_succ, hO.st, ← hjk.out, hy, hs])
      have HE : Hid (ostep (c, true) (at_ + 1 + k, E (at_ + 1 + k)) = ostep (c, true) (j, y)) := Lib.hid (by rw [← hjk.out, hy])
      have HO := Lib.hid hO
      have HIL := Lib.hid hil2
      have hjk2 := hjk.out
      have hjl : k ≤ 100000 := by omega
      clear hca hy hO hjk2 hil2
      by_cases hw : y.who = c.who
      · have hw1 : (y.who != c.who) = false := by simpa using hw
        have HW := Lib.hid hw
        clear hw
        by_cases hk : y.kind = 7
        · have hk1 : (y.kind != 7) = false := by simp [hk]
          have HK := Lib.hid hk
          clear hk
          by_cases hev : y.k % 2 = 0
          · have hev1 : (y.k % 2 == 0) = true := by simp [hev]
            have HV := Lib.hid hev
            clear hev
            go_upto_region 5 with fail
            go_quiet (fail)
            have hO2 := HO.out.drewN nq
            have hcb2 := hO2.cb
            have hrb2 := hO2.rb
            unfold callRow at hcb2
            clear hcb hrb
            have hrb := hrb2
            go_wp2_with (first
              | (refine wpList_load_row rfl 40 (.tmp 5) rfl _ rfl 40 _ (0, 0) _ hcb2 Try.underlying40 rfl (by kernel_rfl) ?_)
              | (refine wpList_store_row rfl 40 (.tmp 4) (.tmp 62) rfl _ rfl _ rfl 40 _ hrb rfl (by kernel_rfl) (by simp [Value.oneCell']) ?_; intro W9 hb9 hg9))
            refine bodyPost_ret (results_cell_row rfl _ _ _ _ _ (0, 0) _ rfl hb9 Try.underlying40 rfl (by kernel_rfl)) rfl ?_
            exact one_end (c := c) (by rw [oneK_all, show len - (at_ + 1) = (k + 1) + (len - (at_ + 1) - (k + 1)) by have := hjk.out; omega, oneK_off _ _ _ (by rw [HST.out (c, false) (by unfold ostep; dsimp only; rw [if_neg (by simp), if_neg (by simp [HW.out]), if_neg (by simp [HK.out]), if_pos HV.out])]), HST.out (c, false) (by unfold ostep; dsimp only; rw [if_neg (by simp), if_neg (by simp [HW.out]), if_neg (by simp [HK.out]), if_pos HV.out])]) hO2.row hO2.below hg9 hO2.hz
          · have hev1 : (y.k % 2 == 0) = false := by simpa using hev
            have HV := Lib.hid hev
            clear hev
            have hdy := Int.ediv_nonneg hyv0 (show (0 : Int) ≤ 2 by decide)
            have hy2 : y.k / 2 ≤ 2147483647 := by omega
            by_cases hsi : y.k / 2 = c.site
            · have hsi1 : (y.k / 2 == c.site) = true := by simpa using hsi
              have HSI := Lib.hid hsi
              clear hsi
              go_upto_region 5 with fail
              go_quiet (fail)
              obtain ⟨q1, rfl⟩ : ∃ q1, q1 = nq := ⟨_, rfl⟩
              go_upto_region 11 with fail
              have hW13 : IntKind.u32.wrap (y.k / 2) = y.k / 2 := IntWalk.u32_in _ (by omega)
              have hW14 : IntKind.i64.wrap (y.k / 2) = y.k / 2 := IntWalk.i64_in _ (by omega)
              have htd : Int.tdiv y.k 2 = y.k / 2 := Int.tdiv_eq_ediv_of_nonneg hyv0
              go_quiet (fail)
              clear hW13 hW14 htd
              have hO2 := HO.out.drewN (q1 + nq)
              have hcb2 := hO2.cb
              unfold callRow at hcb2
              have k3 := hcb2.cell 3
              have k4 := hcb2.cell 4
              have kf3 := hcb2.frozen 3
              have kf4 := hcb2.frozen 4
              simp only [List.getElem?_toArray, List.getElem?_cons_zero, List.getElem?_cons_succ] at k3 k4
              have hcb3 := (hcb2.set_ 3 (.int .i64 (j : Int))).set_ 4 (.int .u32 y.value)
              simp only [List.setIfInBounds_toArray, List.set_cons_zero, List.set_cons_succ] at hcb3
              have hrb3 := (hO2.rb.far (p := ⟨w.heap.size + 1, 3, none⟩) (by show w.heap.size ≠ w.heap.size + 1; omega) (.int .i64 (j : Int))).far (p := ⟨w.heap.size + 1, 4, none⟩) (by show w.heap.size ≠ w.heap.size + 1; omega) (.int .u32 y.value)
              have hrow3 := own_grown (own_grown hO2.row (set_only (g := w.heap.size + 1) (j := 3) (.int .i64 (j : Int))) (by omega)) (set_only (g := w.heap.size + 1) (j := 4) (.int .u32 y.value)) (by omega)
              have hB3 := (hO2.below.setCell (p := ⟨w.heap.size + 1, 3, none⟩) (by show w.heap.size ≤ w.heap.size + 1; omega) (.int .i64 (j : Int))).setCell (p := ⟨w.heap.size + 1, 4, none⟩) (by show w.heap.size ≤ w.heap.size + 1; omega) (.int .u32 y.value)
              have hz3 : w.heap.size + 2 ≤ (((wr.drewN (q1 + nq)).setCell ⟨w.heap.size + 1, 3, none⟩ (.int .i64 (j : Int))).setCell ⟨w.heap.size + 1, 4, none⟩ (.int .u32 y.value)).heap.size := by simpa [World.setCell] using hO2.hz
              clear hcb hrb hcb2 hO2
              have hrb := hrb3
              have HZ := Lib.hid (And.intro hrow3 (And.intro hB3 hz3))
              clear hrow3 hB3 hz3 hrb3
              go_wp2_with (first
                | (refine wpList_load_row rfl 40 (.tmp 5) rfl _ rfl 40 _ (0, 0) _ hcb3 Try.underlying40 rfl (by kernel_rfl) ?_)
                | (refine wpList_store_row rfl 40 (.tmp 4) (.tmp 81) rfl _ rfl _ rfl 40 _ hrb rfl (by kernel_rfl) (by simp [Value.oneCell']) ?_; intro W9 hb9 hg9))
              refine bodyPost_ret (results_cell_row rfl _ _ _ _ _ (0, 0) _ rfl hb9 Try.underlying40 rfl (by kernel_rfl)) rfl ?_
              exact one_end (c := { c with ended := (j : Int), result := y.value }) (by rw [oneK_all, show len - (at_ + 1) = (k + 1) + (len - (at_ + 1) - (k + 1)) by have := hjk.out; omega, oneK_off _ _ _ (by rw [HST.out ({ c with ended := (j : Int), result := y.value }, false) (by unfold ostep; dsimp only; rw [if_neg (by simp), if_neg (by simp [HW.out]), if_neg (by simp [HK.out]), if_neg HV.out, if_pos HSI.out])]), HST.out ({ c with ended := (j : Int), result := y.value }, false) (by unfold ostep; dsimp only; rw [if_neg (by simp), if_neg (by simp [HW.out]), if_neg (by simp [HK.out]), if_neg HV.out, if_pos HSI.out])]) HZ.out.1 HZ.out.2.1 hg9 HZ.out.2.2
            · have hsi1 : (y.k / 2 == c.site) = false := by simpa using hsi
              have HSI := Lib.hid hsi
              clear hsi
              go_upto_region 5 with fail
              go_quiet (fail)
              obtain ⟨q1, rfl⟩ : ∃ q1, q1 = nq := ⟨_, rfl⟩
              go_upto_region 11 with fail
              have hW13 : IntKind.u32.wrap (y.k / 2) = y.k / 2 := IntWalk.u32_in _ (by omega)
              have hW14 : IntKind.i64.wrap (y.k / 2) = y.k / 2 := IntWalk.i64_in _ (by omega)
              have htd : Int.tdiv y.k 2 = y.k / 2 := Int.tdiv_eq_ediv_of_nonneg hyv0
              go_quiet (fail)
              clear hW13 hW14 htd
              go_wp2
              go_roundw
              case measure => simp [intOf]; omega
              case rel => exact ⟨j + 1, k + 1, c, _, Lib.hid (by have := hjk.out; omega), by omega, by go_num, (HO.out.skip (by rw [HE.out]; unfold ostep; dsimp only; rw [if_neg (by simp), if_neg (by simp [HW.out]), if_neg (by simp [HK.out]), if_neg HV.out, if_neg HSI.out])).drewN (q1 + nq)⟩
        · have hk1 : (y.kind != 7) = true := by simpa using hk
          have HK := Lib.hid hk
          clear hk
          by_cases h3 : y.kind = 3
          · have h31 : (y.kind != 3) = false := by simp [h3]
            have H3 := Lib.hid h3
            clear h3
            go_upto_region 5 with fail
            go_quiet (fail)
            go_wp2
            go_roundw
            case measure => simp [intOf]; omega
            case rel => exact ⟨j + 1, k + 1, c, _, Lib.hid (by have := hjk.out; omega), by omega, by go_num, (HO.out.skip (by rw [HE.out]; unfold ostep; dsimp only; rw [if_neg (by simp), if_neg (by simp [HW.out]), if_pos (by exact HK.out), if_neg (by simp [H3.out])])).drewN nq⟩
          · have h31 : (y.kind != 3) = true := by simpa using h3
            have H3 := Lib.hid h3
            clear h3
            go_upto_region 5 with fail
            go_quiet (fail)
            have hO2 := HO.out.drewN nq
            have hrow2 := hO2.row
            rw [HIL.out] at hrow2
            have hz2 := hO2.hz
            have hk2 : ∀ w5 : World, ((wr.drewN nq).alloc (.cells #[.int .i64 (j : Int)] 3)).grownBy w5 (Value.slice iA il ic).ownBlock → w5.cell? ⟨w.heap.size + 1, 5, none⟩ = some (.slice iA il ic) ∧ w5.frozen? ⟨w.heap.size + 1, 5, none⟩ = false := fun w5 hg => by
              have h1 := (grow_keep hrow2 hg hz2 (w.heap.size + 1) (by omega)).trans hO2.cb
              exact ⟨(Blk.cell (show Blk _ _ _ _ from h1) 5).trans rfl, Blk.frozen (show Blk _ _ _ _ from h1) 5⟩
            have HO2 := Lib.hid hO2
            have HK2 := Lib.hid hk2
            clear hO2 hk2
            go_wp2_with (at_builtin; go_must (refine wpList_append_own_at _ rfl (.tmp 50) (.tmp 52) 24 rfl (w.heap.size + 2) 3 i0 _ 1 8 Try.underlying24 hi hz0 hz1 hz2' rfl (by decide) _ _ _ rfl (hrow2.alloc _) ⟨(wr.drewN nq).heap.size, 0, none⟩ 1 1 [.int .i64 (j : Int)] rfl rfl (cell_one_new _ _ _) (by simp [Value.oneCell']) (by unfold maxLen; omega) (by omega) (Nat.le_trans hz2 (by simp)) ?_; intro v' w5 hown5 hg5 _ hnew; obtain ⟨p5, pf5⟩ := HK2.out _ hg5; obtain ⟨vA, vc, rfl, _, _⟩ := own_cap hown5))
            have hO2 := HO2.out
            have hg6 : World.grownBy _ w5 (Value.slice iA il ic).ownBlock := hg5
            obtain rfl := HIL.out
            go_roundw
            case measure => simp [intOf]; omega
            case rel => exact ⟨j + 1, k + 1, _, _, Lib.hid (by have := hjk.out; omega), by omega, by go_num, hO2.inner (z := (j : Int)) (by rw [HE.out]; unfold ostep; dsimp only; rw [if_neg (by simp), if_neg (by simp [HW.out]), if_pos (by exact HK.out), if_pos (by exact H3.out)]) hg6 hown5⟩
      · have hw1 : (y.who != c.who) = true := by simpa using hw
        have HW := Lib.hid hw
        clear hw
        go_upto_region 5 with fail
        go_quiet (fail)
        go_wp2
        go_roundw
        case measure => simp [intOf]; omega
        case rel => exact ⟨j + 1, k + 1, c, _, Lib.hid (by have := hjk.out; omega), by omega, by go_num, (HO.out.skip (by rw [HE.out]; exact ostep_other (by exact HW.out))).drewN nq⟩
    · have hjl : j = len := by omega
      go_wp2_with (first
        | (refine wpList_load_row rfl 40 (.tmp 5) rfl _ rfl 40 _ (0, 0) _ hcb Try.underlying40 rfl (by kernel_rfl) ?_)
        | (refine wpList_store_row rfl 40 (.tmp 4) (.tmp 82) rfl _ rfl _ rfl 40 _ hrb rfl (by kernel_rfl) (by simp [Value.oneCell']) ?_; intro W9 hb9 hg9))
      refine bodyPost_ret (results_cell_row rfl _ _ _ _ _ (0, 0) _ rfl hb9 Try.underlying40 rfl (by kernel_rfl)) rfl ?_
      exact one_end (c := c) (by rw [oneK_all, show len - (at_ + 1) = k by have := hjk.out; omega, hO.st]) hO.row hO.below hg9 hO.hz
end Go.Proofs.Ytidedjjpaoagjaa
