/- RwCode. -/
import Derived.RangeFuncNested
import Derived.RangeFuncBox
import Derived.RangeFuncBound
import Derived.RangeFuncCalls
import Derived.RangeFuncLeaves
import Derived.Shelf.Abstract
import Derived.Shelf.RegionOpen
import Derived.WalkKit
import Derived.OwnWalkIn
import Derived.TacticsInMore
import Derived.LoopNIn
import Derived.LoopIn
import Derived.Test.YtmhfpjnkjlhbpaaGreatDoorEw
namespace Go.Proofs.YtmhfpjnkjlhbpaaGreatDoor
open Go.ChangeShapes Go.WideShapes Go.ChangeAt Go.RowKit Go.Shelf
set_option linter.unusedVariables false
set_option maxRecDepth 100000
set_option linter.unusedSimpArgs false
attribute [local go_sem] Oper.semAt_some
def evEnc (x : Nat × Ev) : Array Value := #[.int .i64 (x.1 : Int), .agg #[.int .i64 x.2.kind, .int .i64 x.2.who, .int .i64 x.2.pc, .int .i64 x.2.addr, .int .u32 x.2.value, .int .u32 x.2.old, .int .u32 x.2.k, .bool x.2.ok]]
structure KpOf (n₀ Bt : Nat) (A B : World) : Prop where
  below : Below n₀ A B
  keep : ∀ o, A.heap[Bt]? = some o → B.heap[Bt]? = some o
theorem KpOf.refl (n₀ Bt : Nat) (A : World) : KpOf n₀ Bt A A := ⟨Below.refl _ _, fun _ h => h⟩
theorem KpOf.trans {n₀ Bt : Nat} {A B C : World} (h : KpOf n₀ Bt A B) (k : KpOf n₀ Bt B C) : KpOf n₀ Bt A C := ⟨h.below.trans k.below, fun o ho => k.keep o (h.keep o ho)⟩
theorem KpOf.of_below {n₀ Bt : Nat} {A B : World} (h : Below A.heap.size A B) (hn : n₀ ≤ A.heap.size) : KpOf n₀ Bt A B :=
  ⟨h.mono hn, fun o ho => (h.block Bt (Array.getElem?_eq_some_iff.1 ho).1).trans ho⟩
theorem KpOf.of_grown {n₀ Bt : Nat} {A B : World} {row : Option Nat} (hg : A.grownBy B row) (hn : n₀ ≤ A.heap.size) (hr : ∀ r, row = some r → n₀ ≤ r ∧ r ≠ Bt) : KpOf n₀ Bt A B :=
  ⟨(Below.refl n₀ A).grown hg hn (fun k e => (hr k e).1), fun o ho => (hg.block Bt (Array.getElem?_eq_some_iff.1 ho).1 (fun e => (hr Bt e.symm).2 rfl)).trans ho⟩
theorem kpOf_b {n₀ Bt : Nat} {w : World} (hn : n₀ ≤ w.heap.size) (hB : Bt < w.heap.size) (W : World) (l : Nat) (o o' : Obj) (hl : w.heap.size ≤ l) (h : W.heap[l]? = some o) (h1 : o.isCells = false) (h2 : o.isWalk = false) : KpOf n₀ Bt W (W.putObj l o') :=
  KpOf.of_grown (grownBy_putObj' W l o') (by have := (Array.getElem?_eq_some_iff.1 h).1; omega) (fun r e => by cases e; exact ⟨by omega, by omega⟩)
def OfEnd (E : Nat → Ev) (t : Int) (len : Nat) (J Jx : List (Nat × Ev) → World → Prop) (e : Ending) (W' : World) : Prop := (∃ v, e = .returned v) ∧ ((∃ ys, ys = evs E t len ∧ J ys W') ∨ (∃ pre, True ∧ Jx pre W'))
set_option maxRecDepth 100000 in
set_option maxHeartbeats 2000000 in
theorem of1_in (F : Fence) (n : Nat) (hFn : F.fn 109) (hro : F.round = none) (hn : 1 ≤ n) (l Bs Bt n₀ b off len cap : Nat) (E : Nat → Ev) (t : Int) (hl : len ≤ 1000000000) (hb : b < n₀) (J Jx : List (Nat × Ev) → World → Prop) (W : World) (hn₀ : n₀ ≤ W.heap.size)
    (hJ : AbidesFrom W.heap.size J)
    (hY : ∀ pre x W, J pre W → pre.length < len → YieldAt F (n - 1) Tryz.prog l (evEnc x) W fun e W' =>
      (e = .returned (.bool true) ∧ J (pre ++ [x]) W' ∧ KpOf n₀ Bt W W') ∨ (e = .returned (.bool false) ∧ Jx (pre ++ [x]) W'))
    (hBs : W.cell? ⟨Bs, 0, none⟩ = some (.slice (some ⟨b, off, none⟩) len cap)) (ht : Blk W Bt 3 #[.int .i64 t]) (hc : ∀ i, i < len → ∀ j u, (E i).cells[j]? = some u → W.cell? ⟨b, off + i * 8 + j, none⟩ = some u) (h0 : J [] W) :
    CallsIn F n Tryz.prog 109 #[.func (.yield l) #[] #[], .pointer (some ⟨Bs, 0, none⟩), .pointer (some ⟨Bt, 0, none⟩)] W (OfEnd E t len J Jx) := by
  have hAl : ∀ pre W1 o, J pre W1 → J pre (W1.alloc o) := fun pre W1 o h => hJ pre W1 _ none h (World.grownBy_alloc W1 o none) (fun r e => by cases e)
  refine callsIn_of_wp Tryz.func109 rfl hFn ?_ hro
  simp only [Tryz.ntmps109, List.size_toArray, List.length_cons, List.length_nil, Nat.reduceAdd, Nat.reduceSub, Array.replicate_succ, Array.replicate_zero, List.push_toArray, List.append_toArray, List.nil_append, List.cons_append]
  gi_wp2
  gi_loopw [8] (fun i wr => ∃ k : Nat, k ≤ len ∧ i = .int .i64 k ∧ J (evs E t k) wr ∧ KpOf n₀ Bt W wr) (fun i _ => len - (intOf i).toNat)
  case atStart => exact ⟨0, Nat.zero_le _, rfl, h0, KpOf.refl _ _ _⟩
  case round =>
    obtain ⟨k, hk, rfl, hJs, hnx⟩ := hrel
    by_cases hlt : k < len
    · have hcx : ∀ j u, (E k).cells[j]? = some u → wr.cell? ⟨b, off + k * 8 + j, none⟩ = some u := fun j u hu => (hnx.below.cell (p := ⟨b, _, none⟩) hb).trans (hc k hlt j u hu)
      have htx : Blk wr Bt 3 #[.int .i64 t] := hnx.keep _ ht
      have hlt' : (k : Int) < (len : Int) := by omega
      obtain ⟨x, hx⟩ : ∃ x, E k = x := ⟨_, rfl⟩
      rw [hx] at hcx
      have c0 := hcx 0 _ rfl
      have c1 := hcx 1 _ rfl
      have c2 := hcx 2 _ rfl
      have c3 := hcx 3 _ rfl
      have c4 := hcx 4 _ rfl
      have c5 := hcx 5 _ rfl
      have c6 := hcx 6 _ rfl
      have c7 := hcx 7 _ rfl
      rw [Nat.add_zero] at c0
      clear hcx
      have hal := (Below.refl wr.heap.size wr).alloc (Nat.le_refl _) (.cells #[.int .i64 x.kind, .int .i64 x.who, .int .i64 x.pc, .int .i64 x.addr, .int .u32 x.value, .int .u32 x.old, .int .u32 x.k, .bool x.ok] 65)
      have htz : (wr.alloc (.cells #[.int .i64 x.kind, .int .i64 x.who, .int .i64 x.pc, .int .i64 x.addr, .int .u32 x.value, .int .u32 x.old, .int .u32 x.k, .bool x.ok] 65)).cell? ⟨Bt, 0, none⟩ = some (.int .i64 t) := ((htx.alloc _).cell 0).trans rfl
      have hJ1 := hAl _ wr (.cells #[.int .i64 x.kind, .int .i64 x.who, .int .i64 x.pc, .int .i64 x.addr, .int .u32 x.value, .int .u32 x.old, .int .u32 x.k, .bool x.ok] 65) hJs
      have hn1 : KpOf n₀ Bt W (wr.alloc (.cells #[.int .i64 x.kind, .int .i64 x.who, .int .i64 x.pc, .int .i64 x.addr, .int .u32 x.value, .int .u32 x.old, .int .u32 x.k, .bool x.ok] 65)) := hnx.trans (KpOf.of_below hal (Nat.le_trans hn₀ hnx.below.size))
      have HX := Lib.hid hx
      clear hx hal
      by_cases hw : x.who = t
      · have hwb : (x.who == t) = true := by simpa using hw
        have HW := Lib.hid hw
        clear hw
        obtain ⟨fn, tmps, assign, body, hy, hR⟩ := hY _ (k, x) _ hJ1 (Nat.lt_of_le_of_lt (evs_len E t k) hlt)
        unfold evEnc at hy
        dsimp only at hy
        gi_wp2
        refine hR.mono ?_
        rintro e W3 (⟨rfl, hJ3, hk3⟩ | ⟨rfl, hJx3⟩)
        · gi_wp2
          go_roundw
          case rel => exact ⟨k + 1, by omega, by go_num, by rw [evs_hit (by rw [HX.out]; exact HW.out), HX.out]; exact hJ3, hn1.trans hk3⟩
          case measure => simp [intOf]; omega
        · gi_wp2
          refine bodyPost_ret (results_none rfl _ _ _) rfl ?_
          exact ⟨⟨_, rfl⟩, .inr ⟨_, trivial, hJx3⟩⟩
      · have hwb : (x.who == t) = false := by simpa using hw
        have HW := Lib.hid hw
        clear hw
        gi_wp2
        refine ⟨fun _ h => (by cases h), ?_⟩
        gi_wp2
        go_roundw
        case rel => exact ⟨k + 1, by omega, by go_num, by rw [evs_miss (by rw [HX.out]; exact HW.out)]; exact hJ1, hn1⟩
        case measure => simp [intOf]; omega
    · obtain rfl : k = len := by omega
      have hlt' : ¬ (k : Int) < (k : Int) := by omega
      gi_wp2
      go_end0
      exact ⟨⟨_, rfl⟩, .inl ⟨_, rfl, hJs⟩⟩
theorem of_in (F : Fence) (n : Nat) (hFn : F.fn 66) (hro : F.round = none) (A : Option Addr) (len cap : Nat) (t : Int) (w : World) :
    CallsIn F n Tryz.prog 66 #[.slice A len cap, .int .i64 t] w fun e w' => e = .returned (.func (.func 109) #[] #[.pointer (some ⟨w.heap.size, 0, none⟩), .pointer (some ⟨w.heap.size + 1, 0, none⟩)]) ∧
      w' = (w.alloc (.cells #[.slice A len cap] 40)).alloc (.cells #[.int .i64 t] 3) := by
  refine callsIn_of_wp Tryz.func66 rfl hFn ?_ hro
  simp only [Tryz.ntmps66, List.size_toArray, List.length_cons, List.length_nil, Nat.reduceAdd, Nat.reduceSub, Array.replicate_succ, Array.replicate_zero, List.push_toArray, List.append_toArray, List.nil_append, List.cons_append]
  gi_wp2
  go_ret
  exact ⟨rfl, rfl⟩
set_option maxRecDepth 100000 in
set_option maxHeartbeats 1000000 in
theorem of1_nil_in (F : Fence) (n : Nat) (hFn : F.fn 109) (hro : F.round = none) (l Bs Bt cap : Nat) (A : Option Addr) (E : Nat → Ev) (t : Int) (J Jx : List (Nat × Ev) → World → Prop) (W : World)
    (hBs : W.cell? ⟨Bs, 0, none⟩ = some (.slice A 0 cap)) (h0 : J [] W) :
    CallsIn F n Tryz.prog 109 #[.func (.yield l) #[] #[], .pointer (some ⟨Bs, 0, none⟩), .pointer (some ⟨Bt, 0, none⟩)] W (OfEnd E t 0 J Jx) := by
  refine callsIn_of_wp Tryz.func109 rfl hFn ?_ hro
  simp only [Tryz.ntmps109, List.size_toArray, List.length_cons, List.length_nil, Nat.reduceAdd, Nat.reduceSub, Array.replicate_succ, Array.replicate_zero, List.push_toArray, List.append_toArray, List.nil_append, List.cons_append]
  gi_wp2
  gi_loopw [8] (fun i wr => i = .int .i64 0 ∧ J [] wr) (fun _ _ => 0)
  case atStart => exact ⟨rfl, h0⟩
  case round =>
    obtain ⟨rfl, hJs⟩ := hrel
    gi_wp2
    go_end0
    exact ⟨⟨_, rfl⟩, .inl ⟨_, rfl, hJs⟩⟩
theorem of_stops (F : Fence) (n : Nat) (hFn : F.fn 109) (hro : F.round = none) (hn : 1 ≤ n) (Bs Bt n₀ : Nat) (A : Option Addr) (len cap : Nat) (E : Nat → Ev) (t : Int) (hl : len ≤ 1000000000) (w : World) (hBs : Bs < w.heap.size) (hn₀ : n₀ ≤ w.heap.size)
    (hc : w.cell? ⟨Bs, 0, none⟩ = some (.slice A len cap)) (ht : Blk w Bt 3 #[.int .i64 t]) (hb : 0 < len → ∀ b off, A = some ⟨b, off, none⟩ → b < n₀) (hs : SlE w A len 8 (fun i => (E i).cells)) :
    SeqStopsK F n Tryz.prog 109 #[.pointer (some ⟨Bs, 0, none⟩), .pointer (some ⟨Bt, 0, none⟩)] evEnc (KpOf n₀ Bt) (fun ys => ys = evs E t len) (fun _ => True) len w := fun l J Jx W hW hJ _ hY h0 => by
  have hc' := (hW.cell (p := ⟨Bs, 0, none⟩) hBs).trans hc
  have ht' := ht.below hW ht.lt
  rcases Nat.eq_zero_or_pos len with rfl | hp
  · exact of1_nil_in F n hFn hro l Bs Bt cap A E t J Jx W hc' h0
  · obtain ⟨b, off, rfl, hlt, hcc⟩ := hs hp
    exact of1_in F n hFn hro hn l Bs Bt n₀ b off len cap E t hl (hb hp b off rfl) J Jx W (Nat.le_trans hn₀ hW.size) hJ hY hc' ht' (fun i hi j u hu => (hW.cell (p := ⟨b, _, none⟩) hlt).trans (hcc i hi j u hu)) h0
end Go.Proofs.YtmhfpjnkjlhbpaaGreatDoor
