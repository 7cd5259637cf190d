/- A code that a law puts together, piece by piece. pick.Of. The contract of pick.Read: the picks of bytes, in new memory. A region that draws its order, inside a round: over the plain law, where its operations are calm. -/
import Derived.Test.YtmhfpjnkjlhbpaaGreatDoorQa34
import Derived.Test.YtmhfpjnkjlhbpaaGreatDoorQa01
import Derived.Test.YtmhfpjnkjlhbpaaGreatDoorQa02
import Derived.OrdersIn
import Derived.OwnWalkIn
import Derived.Deep.QuietTactic
import Derived.BigQuiet
namespace Go.Proofs.YtmhfpjnkjlhbpaaGreatDoor
open Go.ChangeShapes Go.WideShapes Go.ChangeAt Go.RowKit Go.Deep
set_option linter.unusedVariables false
set_option maxRecDepth 100000
set_option linter.unusedSimpArgs false

structure CW (W0 W : World) (A : Option Addr) (N c : Nat) (L : List Ins) : Prop where
  n : N = L.length
  own : W.ownsRow W0.heap.size 75 5 (.slice A N c) N (L.flatMap Ins.cells)
  below : Below W0.heap.size W0 W
section
variable {W0 W W' : World} {A : Option Addr} {N c : Nat} {L : List Ins}
theorem CW.start (W0 : World) : CW W0 W0 none 0 0 [] := ⟨rfl, ⟨rfl, .inl ⟨rfl, rfl⟩⟩, Below.refl _ _⟩
theorem CW.step (h : CW W0 W A N c L) (hb : Below W.heap.size W W') : CW W0 W' A N c L := ⟨h.n, own_below h.own (Nat.le_refl _) hb, step_below h.below hb⟩
theorem CW.app {ops : Array Oper} {rest : List Oper} {o : Oper} {a : Act} {Q : Exit → Act → World → Prop} (h : CW W0 W A N c L) (hgd : o.guard = none) (s x : Operand)
    (ho : o.op = .call { callee := .builtin .append, args := #[s, x], argTypes := #[50, 50] }) (l2 : List Ins) (m M cx : Nat) (hm : l2.length = m) (hM : M = N + m) (hs : a.eval s = .slice A N c) {Ax : Option Addr} (hx : a.eval x = .slice Ax m cx)
    (hr : Sl W Ax (m * 5) (fun k => (l2.flatMap Ins.cells).getD k undef)) (hb : M ≤ 1000000)
    (K : ∀ A' c' w', CW W0 w' A' M c' (L ++ l2) → wpList Tryz.prog ops Q rest (a.put o.dst (.slice A' M c')) w') : wpList Tryz.prog ops Q (o :: rest) a W := by
  obtain ⟨hn, hown, hbel⟩ := h
  subst hm hn
  refine wpList_append_ins hgd s x ho W0.heap.size (.slice A L.length c) L l2 hs hown Ax cx hx hr (by omega) hbel.size ?_
  intro A' c' w' h1 h2 h3
  have e : (L ++ l2).length = M := by rw [List.length_append]; exact hM.symm
  rw [e] at h1 ⊢
  exact K A' c' w' ⟨e.symm, h1, hbel.trans (h3.mono (Nat.le_refl _))⟩
theorem CW.app1 {ops : Array Oper} {rest : List Oper} {o : Oper} {a : Act} {Q : Exit → Act → World → Prop} (h : CW W0 W A N c L) (i : Ins) (M : Nat) (hM : M = N + 1) (hgd : o.guard = none) (s x : Operand)
    (ho : o.op = .call { callee := .builtin .append, args := #[s, x], argTypes := #[50, 50] }) (hs : a.eval s = .slice A N c) (hx : a.eval x = .slice (some ⟨W.heap.size, 0, none⟩) 1 1) (hb : M ≤ 1000000)
    (K : ∀ A' c' w', CW W0 w' A' M c' (L ++ [i]) → wpList Tryz.prog ops Q rest (a.put o.dst (.slice A' M c')) w') : wpList Tryz.prog ops Q (o :: rest) a (W.alloc (.cells i.cells.toArray 75)) :=
  (h.step ((Below.refl W.heap.size W).alloc (Nat.le_refl _) _)).app hgd s x ho [i] 1 M 1 rfl hM hs hx (sl_one W i) hb K
theorem CW.appM {ops : Array Oper} {rest : List Oper} {o : Oper} {a : Act} {Q : Exit → Act → World → Prop} {g : Nat} {cs : Array Value} {m : Nat} {F : Nat → Ins} (h : CW W0 W A N c L) (hb5 : Blk W g 75 cs) (hin : ∀ i, i < m → InsAt cs i (F i)) (C : List Ins) (hC : C = (List.range m).map F) (M : Nat) (hM : M = N + m) (hgd : o.guard = none) (s x : Operand)
    (ho : o.op = .call { callee := .builtin .append, args := #[s, x], argTypes := #[50, 50] }) (hs : a.eval s = .slice A N c) (hx : a.eval x = .slice (some ⟨g, 0, none⟩) m m) (hb : M ≤ 1000000)
    (K : ∀ A' c' w', CW W0 w' A' M c' (L ++ C) → wpList Tryz.prog ops Q rest (a.put o.dst (.slice A' M c')) w') : wpList Tryz.prog ops Q (o :: rest) a W := by
  have hl : C.length = m := by rw [hC]; simp
  have hs5 := sl_ins (l := C) (cap := 0) hb5 (fun i hi => by
    have hi' : i < m := by omega
    have e : C.getD i default = F i := by rw [hC]; simp [List.getD_eq_getElem?_getD, List.getElem?_map, List.getElem?_range hi']
    rw [e]; exact hin i hi')
  rw [hl] at hs5
  exact h.app hgd s x ho C m M m hl hM hs hx hs5 hb K
end
structure CodeIn (W : World) (v : Value) (C : List Ins) (m : Nat) : Prop where
  is_ : ∃ og cap, v = .slice (some ⟨og, 0, none⟩) m cap ∧ og < W.heap.size ∧ m ≤ cap ∧ cap ≤ maxLen ∧ SlE W (some ⟨og, 0, none⟩) m 5 (fun i => (C.getD i default).cells)
  len : C.length = m
theorem CodeIn.of {W W' : World} {v : Value} {C : List Ins} (h : OutI W v C W') {m : Nat} (hm : C.length = m) : CodeIn W' v C m := by
  obtain ⟨og, cap, cs, rfl, hog, _, hcap, hcm, _, hins⟩ := h
  subst hm
  exact ⟨⟨og, cap, rfl, hog.lt, hcap, hcm, sle_ins hog hins⟩, rfl⟩
theorem CodeIn.step {W W' : World} {v : Value} {C : List Ins} {m : Nat} (h : CodeIn W v C m) (hb : Below W.heap.size W W') : CodeIn W' v C m := by
  obtain ⟨⟨og, cap, e, hog, hcap, hcm, hs⟩, hl⟩ := h
  exact ⟨⟨og, cap, e, Nat.lt_of_lt_of_le hog hb.size, hcap, hcm, SlE.step hs hb⟩, hl⟩
theorem CodeIn.moved {W : World} {v : Value} {C : List Ins} {m : Nat} (h : CodeIn W v C m) (hok : ∀ x ∈ C, x.Ok) (hm : m ≤ 100000) (z : Int) (hz0 : 0 ≤ z) (hz1 : z ≤ 4294967295) (hT : Tab W) :
    Calls Tryz.prog 35 #[v, .int .i64 z] W fun e W' => ∃ cs : Array Value, e = .returned (.slice (some ⟨W.heap.size, 0, none⟩) m m) ∧ Blk W' W.heap.size 75 cs ∧ (∀ i, i < m → InsAt cs i (movedI z (C.getD i default))) ∧ Below W.heap.size W W' := by
  obtain ⟨⟨og, cap, rfl, hog, hcap, hcm, hs⟩, hl⟩ := h
  have hget : ∀ i, i < m → C.getD i default ∈ C := fun i hi => by
    have hi' : i < C.length := by omega
    rw [List.getD_eq_getElem?_getD, List.getElem?_eq_getElem hi']; exact List.getElem_mem hi'
  refine (moved_any ⟨some ⟨og, 0, none⟩, m, cap, fun i => C.getD i default⟩ z ⟨hcap, hcm, fun i hi => hok _ (hget i hi)⟩ hm hz0 hz1 W hT hs).mono ?_
  rintro e W' ⟨cs, h1, h2, _, h3, h4⟩
  exact ⟨cs, h1, h2, h3, h4⟩
/-! ### a program grows by a code -/
theorem grown_below {W0 W W' : World} {r : Option Nat} (h : W0.grownBy W r) (hb : Below W.heap.size W W') : W0.grownBy W' r :=
  ⟨hb.os.trans h.os, hb.tape.trans h.tape, hb.output.trans h.output, Nat.le_trans h.size hb.size, fun i hi hn => (hb.block i (Nat.lt_of_lt_of_le hi h.size)).trans (h.block i hi hn)⟩
theorem grown_row {W0 W W' : World} {r q : Option Nat} (h : W0.grownBy W r) (hg : W.grownBy W' q) (hq : ∀ g, q = some g → W0.heap.size ≤ g ∨ r = some g) : W0.grownBy W' r :=
  ⟨hg.os.trans h.os, hg.tape.trans h.tape, hg.output.trans h.output, Nat.le_trans h.size hg.size, fun i hi hn => (hg.block i (Nat.lt_of_lt_of_le hi h.size) (fun e => by
    rcases hq i e.symm with q | q
    · omega
    · exact hn q.symm)).trans (h.block i hi hn)⟩
theorem CdRow.far {W W' : World} {base : Nat} {v : Value} {L : List (List Ins)} {g : Nat} {t : TypeId} {cs : Array Value} (h : CdRow W base v L) (hb : Blk W g t cs) (h1 : t ≠ 50) (h2 : t ≠ 75) (hg : W.grownBy W' (some g)) : CdRow W' base v L := by
  obtain ⟨vals, q1, q2, q3⟩ := h
  exact ⟨vals, q1, row_grown q2 hg (row_ne hb q2 h1), fun i hi => row_grown (q3 i hi) hg (row_ne hb (q3 i hi) h2)⟩
theorem CdRow.cap {W : World} {base : Nat} {v : Value} {L : List (List Ins)} (h : CdRow W base v L) : ∃ A c, v = .slice A L.length c := by
  obtain ⟨vals, q1, q2, q3⟩ := h
  obtain ⟨A, c, e, _, _⟩ := own_cap q2
  exact ⟨A, c, e⟩
theorem CdRow.app {W0 W : World} {base : Nat} {A AA : Option Addr} {n N c cv : Nat} {L : List (List Ins)} {l : List Ins} {ops : Array Oper} {rest : List Oper} {o : Oper} {a : Act} {Q : Exit → Act → World → Prop} (h : CdRow W base (.slice A n cv) L) (hn : n = L.length) (hc : CW W0 W AA N c l) (hb0 : base ≤ W0.heap.size) (hgd : o.guard = none) (s x : Operand)
    (ho : o.op = .call { callee := .builtin .append, args := #[s, x], argTypes := #[26, 26] }) (hs : a.eval s = .slice A n cv) (hx : a.eval x = .slice (some ⟨W.heap.size, 0, none⟩) 1 1) (hL : n ≤ 100)
    (K : ∀ A' c' w', CdRow w' base (.slice A' (n + 1) c') (L ++ [l]) → (∀ pb t cs, Blk W pb t cs → t ≠ 50 → Blk w' pb t cs) → (∀ (W5 : World) (r : Option Nat), W5.heap.size = base → W5.grownBy W r → W5.grownBy w' r) → wpList Tryz.prog ops Q rest (a.put o.dst (.slice A' (n + 1) c')) w') : wpList Tryz.prog ops Q (o :: rest) a (W.alloc (.cells #[.slice AA N c] 50)) := by
  have hal := (Below.refl W.heap.size W).alloc (Nat.le_refl _) (.cells #[.slice AA N c] 50)
  obtain ⟨vals, q1, q2, q3⟩ := h.below hal
  have hcs := hc.step hal
  subst hn
  obtain ⟨i0, hi, hy0, hy1, hy2⟩ := info_parts slc_info5
  have hcn := hcs.n
  have hbW : base ≤ W.heap.size := Nat.le_trans hb0 hc.below.size
  refine wpList_append_sl (W.alloc (.cells #[.slice AA N c] 50)) hgd s x 26 ho base 50 i0 _ 1 24 Tryz.underlying26 hi hy0 hy1 hy2 rfl (by omega) (.slice A L.length cv) L.length vals hs q2 (some ⟨W.heap.size, 0, none⟩) 1 1 (fun _ => .slice AA N c) hx (fun _ => ⟨_, 0, rfl, by simp, fun i hi => ?_⟩) (fun _ _ => rfl) (by unfold maxLen; omega) (by omega) (by simp; omega) ?_
  · obtain rfl : i = 0 := by omega
    exact ((Blk.new W 50 #[.slice AA N c]).cell 0).trans rfl
  intro v' w' h1 h2 _
  have e1 : (List.range (1 * 1)).map (fun _ => Value.slice AA N c) = [Value.slice AA N c] := rfl
  rw [e1] at h1
  obtain ⟨A', c', rfl, _, _⟩ := own_cap h1
  have hown : (W.alloc (.cells #[.slice AA N c] 50)).ownsRow W0.heap.size 75 5 (.slice AA N c) l.length (l.flatMap Ins.cells) := hcn ▸ hcs.own
  refine K A' c' w' (CdRow.snoc q1 q2 q3 hown hb0 h2 h1) (fun pb t cs hb ht => ?_) (fun W5 r hz hg => ?_)
  · exact (hb.alloc _).grown h2 (row_ne (hb.alloc _) q2 ht)
  · exact grown_row (grown_below hg hal) h2 (fun g e => .inl (by rw [hz]; exact (own_in q2 g e).1))
theorem map_range {C : List Ins} {m : Nat} (h : C.length = m) (f : Ins → Ins) : C.map f = (List.range m).map fun i => f (C.getD i default) := by
  subst h
  refine List.ext_getElem? fun i => ?_
  rw [List.getElem?_map, List.getElem?_map]
  rcases Nat.lt_or_ge i C.length with c | c
  · rw [List.getElem?_range c, List.getElem?_eq_getElem c]
    simp [List.getD_eq_getElem?_getD, List.getElem?_eq_getElem c]
  · rw [List.getElem?_eq_none c, List.getElem?_eq_none (l := List.range C.length) (by simpa using c)]; rfl
end Go.Proofs.YtmhfpjnkjlhbpaaGreatDoor
namespace Go.Proofs.YtmhfpjnkjlhbpaaGreatDoor
open Go.ChangeShapes Go.WideShapes Go.ChangeAt Go.RowKit
set_option linter.unusedVariables false
set_option maxRecDepth 100000

theorem of_any (b : Int) (h0 : 0 ≤ b) (h1 : b ≤ 255) (w : World) :
    Calls Tryz.prog 46 #[.int .u8 b] w fun e w' => e = .returned (.agg #[.int .i64 (b / 8 % 3), .int .i64 (b % 8)]) ∧ Below w.heap.size w w' := by
  go_enter Tryz.func46, Tryz.ntmps46
  go_wp2
  exact bodyPost_ret (v := .agg #[.int .i64 (b / 8 % 3), .int .i64 (b % 8)]) (by simp [results, Tryz.results46, go_sem]) rfl ⟨rfl, (Below.refl _ _).alloc (Nat.le_refl _) _⟩

end Go.Proofs.YtmhfpjnkjlhbpaaGreatDoor
namespace Go.Proofs.YtmhfpjnkjlhbpaaGreatDoor
open Go.RowKit
set_option linter.unusedVariables false
set_option maxRecDepth 100000

theorem pick_info : (Tryz.prog.info? 78).map (fun i => (i.zero, i.size, i.bytes)) = some (some (.agg #[.int .i64 0, .int .i64 0]), 2, 16) := by kernel_rfl

theorem run_make_rowN {P : Program} (t e : TypeId) (i : TypeInfo) (z : Value) (ht : P.underlying t = some (.slice e)) (hi : P.info? e = some i) (hz : i.zero = some z)
    (kl kc : IntKind) (n c : Nat) (hnc : n ≤ c) (hbytes : i.bytes * c ≤ 281474976710656) (h63 : c ≤ 9223372036854775807) (w : World) :
    (Instr.makeSlice t (.int kl (n : Int)) (.int kc (c : Int))).run P w = .ok (.slice (some ⟨w.heap.size, 0, none⟩) n c) (w.alloc (.cells (madeCells z.cells (c * i.size)) e)) := by
  have hb : (i.bytes : Int) * (c : Int) ≤ 281474976710656 := by
    have h : ((i.bytes * c : Nat) : Int) ≤ 281474976710656 := by omega
    rwa [Int.natCast_mul] at h
  have hr := run_make (P := P) w t e i z ht hi hz kl kc n c (by omega) (by omega) hb (by omega)
  simp only [Int.toNat_natCast] at hr
  exact hr

theorem run_make_picks (n : Nat) (hn : n ≤ 1000000) : ∀ w : World, (Instr.makeSlice 37 (.int .i64 (n : Int)) (.int .i64 (n : Int))).run Tryz.prog w =
    .ok (.slice (some ⟨w.heap.size, 0, none⟩) n n) (w.alloc (.cells (madeCells #[.int .i64 0, .int .i64 0] (n * 2)) 78)) := fun w => by
  obtain ⟨i, hi, hz, hs, hb⟩ := info_parts pick_info
  have := run_make_rowN (P := Tryz.prog) 37 78 i _ Tryz.underlying37 hi hz .i64 .i64 n n (Nat.le_refl _) (by rw [hb]; omega) (by omega) w
  rw [hs] at this
  exact this

set_option maxHeartbeats 400000 in
theorem pickRead_any (A : Option Addr) (len cap : Nat) (Z : Nat → Int) (w : World) (hl : len ≤ 100000) (hsl : Sl w A len (fun i => .int .u8 (Z i))) (hz : ∀ i, i < len → 0 ≤ Z i ∧ Z i ≤ 255) :
    Calls Tryz.prog 18 #[.slice A len cap] w fun e w' => ∃ cs : Array Value, e = .returned (.slice (some ⟨w.heap.size, 0, none⟩) len len) ∧ Blk w' w.heap.size 78 cs ∧ cs.size = len * 2 ∧
      (∀ i, i < len → cs[i * 2]? = some (.int .i64 (Z i / 8 % 3)) ∧ cs[i * 2 + 1]? = some (.int .i64 (Z i % 8))) ∧ Below w.heap.size w w' := by
  have hmk := run_make_picks len (by omega)
  go_enter Tryz.func18, Tryz.ntmps18
  go_wp2
  clear hmk
  go_loopw [11] (fun v wr => ∃ k : Nat, k ≤ len ∧ v = .int .i64 k ∧ ∃ cs : Array Value, Blk wr w.heap.size 78 cs ∧ cs.size = len * 2 ∧ (∀ i, i < k → cs[i * 2]? = some (.int .i64 (Z i / 8 % 3)) ∧ cs[i * 2 + 1]? = some (.int .i64 (Z i % 8))) ∧ Below w.heap.size w wr)
    (fun v _ => len - (intOf v).toNat)
  case atStart =>
    exact ⟨0, Nat.zero_le _, rfl, _, Blk.new _ _ _, by simp [size_madeCells], fun i hi => absurd hi (by omega), (Below.refl _ _).alloc (Nat.le_refl _) _⟩
  case round =>
    obtain ⟨k, hk, rfl, cs, hblk, hcs, hdone, hB⟩ := hrel
    by_cases hlt : k < len
    · obtain ⟨b, off, rfl, hbW, hcW⟩ := (hsl.below (Nat.le_refl _) hB) (by omega)
      have hc0 := hcW k hlt
      have hz0 := hz k hlt
      have hblk1 : ∀ {w1 : World}, Below wr.heap.size wr w1 → Blk w1 w.heap.size 78 cs := fun hb => hblk.below hb hblk.lt
      have hlg := hblk.lt
      have hx0 : ∃ v0, cs[k * 2]? = some v0 := ⟨_, Array.getElem?_eq_getElem (by omega)⟩
      have hx1 : ∃ v1, cs[k * 2 + 1]? = some v1 := ⟨_, Array.getElem?_eq_getElem (by omega)⟩
      obtain ⟨v0, hv0⟩ := hx0
      obtain ⟨v1, hv1⟩ := hx1
      have HS := Lib.hid hcs
      clear hcs hcW hsl
      go_wp2_with (first | (go_at_call 46; refine (of_any _ hz0.1 hz0.2 _).mono ?_; rintro e w1 ⟨rfl, hb1⟩; have q := hblk1 hb1; have q0 := (q.cell (k * 2)).trans hv0; have q1 := (q.cell (k * 2 + 1)).trans hv1; have f0 := q.frozen (k * 2); have f1 := q.frozen (k * 2 + 1)))
      go_roundw
      case rel =>
        refine ⟨k + 1, by omega, by go_num, _, (q.set_ (k * 2) _).set_ (k * 2 + 1) _, by simp [HS.out], fun i hi => ?_, ?_⟩
        · by_cases hik : i = k
          · subst hik
            have := HS.out
            constructor
            · rw [Array.getElem?_setIfInBounds_ne (by omega), Array.getElem?_setIfInBounds_self_of_lt (by omega)]
            · rw [Array.getElem?_setIfInBounds_self_of_lt (by simp; omega)]
          · have := hdone i (by omega)
            rw [Array.getElem?_setIfInBounds_ne (by omega), Array.getElem?_setIfInBounds_ne (by omega), Array.getElem?_setIfInBounds_ne (by omega), Array.getElem?_setIfInBounds_ne (by omega)]
            exact this
        · exact ((step_below hB hb1).setCell (Nat.le_refl _) _).setCell (Nat.le_refl _) _
      case measure => simp [intOf]; omega
    · obtain rfl : k = len := by omega
      go_wp2
      go_ret
      exact ⟨cs, rfl, hblk, hcs, hdone, hB⟩
end Go.Proofs.YtmhfpjnkjlhbpaaGreatDoor
namespace Go.Proofs.YtmhfpjnkjlhbpaaGreatDoor
open Go.ChangeShapes Go.WideShapes Go.ChangeAt Go.RowKit Go.Deep
set_option linter.unusedVariables false
set_option maxRecDepth 100000

def calmB (o : Oper) : Bool :=
  match o.op with
  | .move _ | .assign _ | .pick _ _ _ | .load _ _ | .store _ _ _ | .binOp _ _ _ _ _ | .unOp _ _ _ | .convert _ _ _ | .fieldAddr _ _ _ | .indexAddr _ _ _ | .extract _ _ | .nilCheck _ => true
  | .call c => match c.callee with
    | .builtin .len => true
    | _ => false
  | _ => false
def Calm : Result Next → Prop
  | .ok (.value _) _ => True
  | .ok .skip _ => True
  | .halt _ _ => True
  | _ => False
theorem calm_v {P : Program} (s : Sem Value) (w : World) : Calm ((do pure (Next.value (← s)) : Sem Next).run P w) := by
  simp only [Sem.run_bind, Sem.run_pure]
  cases s.run P w <;> trivial
theorem calm_u {P : Program} (s : Sem Unit) (w : World) : Calm ((do s; pure Next.skip : Sem Next).run P w) := by
  simp only [Sem.run_bind, Sem.run_pure]
  cases s.run P w <;> trivial
theorem calm_pick {P : Program} (s : Sem Bool) (x y : Value) (w : World) : Calm ((do pure (Next.value (if ← s then x else y)) : Sem Next).run P w) := by
  simp only [Sem.run_bind, Sem.run_pure]
  cases s.run P w <;> trivial
theorem calm_then {α : Type} (r : Result α) {k : α → World → Result Next} (h : ∀ x w', Calm (k x w')) : Calm (r.andThen k) := by
  cases r <;> first | exact h _ _ | trivial
theorem calm_nil (P : Program) (ρ : Operand → Value) (o : Oper) (x : Operand) (h : o.op = .nilCheck x) (w : World) : Calm ((execOp ρ o).run P w) := by
  unfold execOp
  rw [h]
  dsimp only
  repeat' split
  all_goals first
    | trivial
    | (simp only [Sem.run_bind]
       refine calm_then _ fun y w' => ?_
       refine calm_then _ fun y w' => ?_
       split
       · trivial
       · trivial)
theorem calm_spec {P : Program} (o : Oper) (h : calmB o = true) (ρ : Operand → Value) (w : World) :
    Calm ((execOp ρ o).run P w) ∧ o.about P w ρ = none ∧ ∀ c, o.op ≠ .defer c := by
  unfold calmB at h
  refine ⟨?_, ?_, fun c e => by rw [e] at h; cases h⟩
  · by_cases hn : ∃ x, o.op = .nilCheck x
    · obtain ⟨x, hn⟩ := hn
      exact calm_nil P ρ o x hn w
    unfold execOp
    split at h <;> first | exact absurd h (by decide) | (rename_i e; rw [e])
    all_goals first
      | exact calm_v _ w
      | exact calm_u _ w
      | exact calm_pick _ _ _ w
      | exact absurd ⟨_, by assumption⟩ hn
      | trivial
      | (rename_i c; split at h <;> rename_i e2
         · simp only [resolve, e2, Sem.run_bind, Sem.run_pure, Result.andThen_ok, invoke, builtin]
           cases (Builtin.len_ c.argTypes o.type (c.args.map ρ)).run P w <;> trivial
         · cases h)
  · unfold Oper.about
    split at h <;> first | exact absurd h (by decide) | (rename_i e; rw [e])
    all_goals first
      | rfl
      | (rename_i c; split at h <;> rename_i e2
         · simp only [resolve, e2, Sem.run_pure]; rfl
         · cases h)

theorem opsIn_of {F : Fence} {n : Nat} {P : Program} {ops : Array Oper} {Q : Exit → Act → World → Prop} (hc : ∀ (i : Nat) (o : Oper), ops[i]? = some o → calmB o = true) :
    ∀ (l : List Nat) (a : Act) (w : World), wpOps P ops (fun e a w => e = .normal ∧ Q .normal a w) l a w → wpOpsIn F n P ops Q l a w
  | [], a, w, h => h.2
  | i :: rest, a, w, h => by
    unfold wpOps at h
    unfold wpOpsIn
    cases ho : ops[i]? with
    | none =>
      rw [ho] at h
      exact opsIn_of hc rest a w h
    | some o =>
      rw [ho] at h
      dsimp only at h ⊢
      obtain ⟨c1, c2, c3⟩ := calm_spec (P := P) o (hc i o ho) a.eval w
      by_cases hw : Region.wanted o (yielded ops a.tmps) = true
      · rw [if_pos hw] at h ⊢
        refine ⟨fun f e => (by rw [c2] at e; cases e), ?_⟩
        rw [Oper.semAt_plain F _ _ c3]
        rcases h with h | ⟨_, a', w', e, _⟩
        · unfold Oper.wp at h
          generalize (execOp a.eval o).run P w = r at h c1 ⊢
          cases r with
          | ok nx w' =>
            cases nx with
            | value v => exact opsIn_of hc rest _ _ h
            | skip => exact opsIn_of hc rest _ _ h
            | _ => exact c1.elim
          | halt x w' =>
            cases x with
            | panic v => exact absurd h.1 (by intro e; cases e)
            | _ => exact h.elim
        · cases e
      · rw [if_neg hw] at h ⊢
        exact ⟨fun f e => (by rw [c2] at e; cases e), opsIn_of hc rest _ _ h⟩

def calmOps (ops : Array Oper) : Bool := ops.all calmB
theorem startGIn {F : Fence} {n : Nat} {P : Program} {id : Nat} {ops : Array Oper} {Q : Exit → Act → World → Prop} {a : Act} {w : World} (S : World → Prop) (m : Nat) (hm : P.follows .mixedOrders = true) (hc : calmOps ops = true)
    (h : wpAnyG P .any ops (fun e a w => e = .normal ∧ Q .normal a w) S m ops.size (Array.replicate ops.size false) a w.drew) : (Code.region id ops true).wpIn F n P Q a w :=
  wpIn_region_draw fun t => by
    simp only [Region.schedule, hm, Bool.true_or, if_true]
    refine opsIn_of (fun i o ho => ?_) _ _ _ (wpAny_sound ops.size t _ a _ (wpAny_of_G _ _ _ _ h))
    exact Array.all_eq_true_iff_forall_mem.1 hc o (Array.mem_of_getElem? ho)

theorem quietIn {F : Fence} {n : Nat} {P : Program} {id : Nat} {l : List Oper} {Q : Exit → Act → World → Prop} {a : Act} {w : World} (hm : P.follows .mixedOrders = true) (hc : calmOps l.toArray = true) (hB : Region.lexB .any l.toArray = true)
    (h : wpQuiet P l.toArray (fun w' => ∃ n, w' = w.drewN n) (fun a' => ∀ w', (∃ n, w' = w.drewN n) → Q .normal a' w') l a) : (Code.region id l.toArray true).wpIn F n P Q a w :=
  wpIn_region_draw fun t => by
    simp only [Region.lexB, Bool.and_eq_true] at hB
    simp only [Region.schedule, hm, Bool.true_or, if_true]
    refine opsIn_of (fun i o ho => Array.all_eq_true_iff_forall_mem.1 hc o (Array.mem_of_getElem? ho)) _ _ _ (wpAny_sound l.toArray.size t _ a _ ?_)
    refine wpAny_of_quiet (C := fun w' => ∃ n, w' = w.drewN n) (Q := fun a' => ∀ w', (∃ n, w' = w.drewN n) → Q .normal a' w') (fun _ w' hw' h => ⟨rfl, h w' hw'⟩) _ _ _ _ ⟨1, rfl⟩ ?_
    have := wpAnyQ_lex (C := fun w' => ∃ n, w' = w.drewN n) (md := .any) hB.1 l 0 (Array.replicate l.toArray.size false) a (by simp) (by simpa using hB.2) h
    simpa using this

/-! ### Where no operation breaks what the others lean on (m is no operation at all) -/
section
variable {P : Program} {md : Region.Mode} {ops : Array Oper} {Q : Exit → Act → World → Prop} {S : World → Prop} {m : Nat}
theorem wpAnyG_firstS {i : Nat} {oi : Oper} {v : Value} (hi : ops[i]? = some oi) (hsel : ∀ (j : Nat) (o : Oper) cs b, ops[j]? = some o → o.op ≠ .select cs b)
    (hQ : ∀ c a w, Q (.panic c) (a.put oi.dst v) w → Q (.panic c) a w) :
    ∀ (f : Nat) (L : Array Bool) (a : Act) (w : World), L.size ≤ m →
      (∀ j oj, ops[j]? = some oj → j ≠ i → L.getD j true = false → (∀ e ∈ oj.after, Region.binds md e = true → e.on ≠ i) → oi.apart ops oj = true) →
      i ∈ Region.ready md ops L → YieldsIf P ops S oi v a → S w →
      wpAnyG P md ops Q S m f (L.setIfInBounds i true) (a.put oi.dst v) w → wpAnyG P md ops Q S m (f + 1) L a w
  | 0, L, a, w, hm, _, hr, hy, hS, H => by
    refine ⟨fun h => (by rw [h] at hr; cases hr), fun j hj => ?_⟩
    by_cases hji : j = i
    · rw [hji]; exact hy.wpOp hi hS ⟨fun _ h => hS, H⟩
    · have := ready_mono hj hji
      rw [H.1] at this
      cases this
  | f + 1, L, a, w, hm, hfree, hr, hy, hS, H => by
    have hun := unlisted_both (mem_ready.1 hr).1
    refine ⟨fun h => (by rw [h] at hr; cases hr), fun j hj => ?_⟩
    by_cases hji : j = i
    · rw [hji]; exact hy.wpOp hi hS ⟨fun _ h => hS, H⟩
    · obtain ⟨hjun, oj, hoj, hall⟩ := mem_ready.1 hj
      have hnot : ∀ e ∈ oj.after, Region.binds md e = true → e.on ≠ i := fun e he hb heq => by
        have := hall e he hb
        rw [heq, hun] at this
        cases this
      have hjm : j ≠ m := fun e => by
        subst e
        rw [Array.getD_eq_getD_getElem?, Array.getElem?_eq_none hm] at hjun
        cases hjun
      have hLm : ∀ L' : Array Bool, L'.size ≤ m → L'.getD m false = false := fun L' h => by
        rw [Array.getD_eq_getD_getElem?, Array.getElem?_eq_none h]; rfl
      have h2 := wpOp_putIf hoj (hfree j oj hoj hji hjun hnot) (fun cs b => hsel i oi cs b hi) (fun cs b => hsel j oj cs b hoj) hQ hy (H.2 j (ready_mono hj hji))
      refine wpOp_mono (fun a' w' h3 => ?_) h2
      obtain ⟨h31, h32, h33⟩ := h3
      have hSw : S w' := h32 hjm (hLm _ (by simpa using hm))
      refine ⟨fun _ _ => hSw, wpAnyG_firstS hi hsel hQ f (L.setIfInBounds j true) a' w' (by simpa using hm) (fun k ok hk hki hu hno => hfree k ok hk hki ?_ hno) (ready_mono hr (Ne.symm hji)) h31 hSw ?_⟩
      · by_cases hjk : j = k
        · rw [← hjk]; exact hjun
        · rwa [getD_set_ne true hjk] at hu
      · rw [Array.setIfInBounds_comm _ _ hji]
        exact h33
theorem takeS {i : Nat} {oi : Oper} {v : Value} {f : Nat} {L : Array Bool} {a : Act} {w : World} (hi : ops[i]? = some oi)
    (hs : Region.noSelect ops = true) (hf : Region.free md ops L i = true) (hr : (Region.ready md ops L).contains i = true) (hl : decide (L.size ≤ m) = true)
    (hQ : ∀ c a w, Q (.panic c) (a.put oi.dst v) w → Q (.panic c) a w) (hy : YieldsIf P ops S oi v a) (hS : S w)
    (h : wpAnyG P md ops Q S m f (L.setIfInBounds i true) (a.put oi.dst v) w) : wpAnyG P md ops Q S m (f + 1) L a w :=
  wpAnyG_firstS hi (Region.noSelect_spec hs) hQ f L a w (of_decide_eq_true hl) (Region.free_spec hi hf) (by simpa using hr) hy hS h
end
/-! ### One cell stored, as a law (go_simp may stand at it) -/
section
variable {P : Program}
theorem cells_one (v : Value) (h : v.oneCell' = true) : v.cells = #[v] := by
  cases v <;> first | rfl | (cases h)
theorem run_storeVar1 (w : World) (b o : Nat) (ty : TypeId) (v : Value) (ht : w.there b o 1) (hi : (P.info? ty).map (·.size) = some 1) (h1 : v.oneCell' = true) :
    (storeVar ty ⟨b, o, none⟩ v).run P w = .ok () (w.setCell ⟨b, o, none⟩ v) := by
  have := run_storeCells_cells (P := P) b o [v] 0 w (fun j hj => by simpa using (ht j (by simpa using hj)).1) (fun j hj => by simpa using (ht j (by simpa using hj)).2)
    (fun x hx => by rw [List.mem_singleton.1 hx]; exact h1)
  cases hq : P.info? ty with
  | none => simp [hq] at hi
  | some i =>
    have hs : 1 = i.size := by simp [hq] at hi; omega
    simp only [Nat.add_zero] at this
    simp [storeVar, sizeOf, typeInfo, hq, cells_one v h1, ← hs, this, World.setCells]
theorem wp_store1 {op : Oper} {a : Act} {w : World} {K : Act → World → Prop} {Q : Exit → Act → World → Prop} (ty : TypeId) (x y : Operand) (ho : op.op = .store ty x y)
    (b o : Nat) (v : Value) (hx : a.eval x = .pointer (some ⟨b, o, none⟩)) (hy : a.eval y = v)
    (ht : w.there b o 1) (hi : (P.info? ty).map (·.size) = some 1) (h1 : v.oneCell' = true)
    (h : K (a.put op.dst undef) (w.setCell ⟨b, o, none⟩ v)) : op.wp P a w K Q := by
  unfold Oper.wp execOp
  simp only [ho, hx, hy, Instr.storeAt, Instr.sureAddr, Sem.run_bind, Sem.run_pure, Result.andThen_ok, run_storeVar1 w b o ty v ht hi h1]
  exact h
theorem there1 {w : World} {b o : Nat} {u : Value} (h : w.cell? ⟨b, o, none⟩ = some u) (hf : w.frozen? ⟨b, o, none⟩ = false) : w.there b o 1 := fun j hj => by
  obtain rfl : j = 0 := by omega
  exact ⟨by rw [Nat.add_zero, h]; rfl, by rw [Nat.add_zero]; exact hf⟩
end
end Go.Proofs.YtmhfpjnkjlhbpaaGreatDoor
