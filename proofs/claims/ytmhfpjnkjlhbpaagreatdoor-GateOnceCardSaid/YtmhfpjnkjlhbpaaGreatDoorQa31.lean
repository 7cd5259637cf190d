/- once (plain): whatever is picked, what holds of what is done once holds. Events without bounds (XEv): as values; a thread's events with their places. trace.Of, as an iterator: its contract for every loop body that keeps old memory. Events without bounds (XEv): as values; a thread's events with their places. trace.Of, as an iterator: its contract for every loop body that keeps old memory. trace.Outs: what a thread put out. -/
import Derived.Test.YtmhfpjnkjlhbpaaGreatDoorQa30
import Derived.Test.YtmhfpjnkjlhbpaaGreatDoorQa02
import Derived.RangeFuncNested
import Derived.RangeFuncBox
import Derived.RangeFuncBound
import Derived.RangeFuncCalls
import Derived.RangeFuncLeaves
import Derived.Shelf.Abstract
import Derived.Shelf.RegionOpen
import Derived.WalkKit
import Derived.OwnWalkIn
import Derived.TacticsInMore
import Derived.LoopNIn
import Derived.LoopIn
import Derived.Maps.AppendAt
namespace Go.Proofs.YtmhfpjnkjlhbpaaGreatDoor
open Go.ChangeShapes Go.WideShapes Go.ChangeAt Go.RowKit Go.Deep
set_option linter.unusedVariables false
set_option maxRecDepth 100000
set_option linter.unusedSimpArgs false

theorem Th.parts {th : Th} {p : Int} {st : Int} (h1 : th.pc = p) (h2 : th.st = st) : th = ⟨p, th.regs, st⟩ := by rw [← h1, ← h2]
theorem once_pick {B : MB} {s : Mst} {rd : Nat → Nat} (hw : Wf B s) (hC : ∀ t, t < B.codes.length → Coded B t (rd t) (fun n => n * 41) (fun n => onceL t (n * 41)))
    (H : ∃ g a b, OnceI B.codes.length rd (vw s) g a b) (x : Int × Int) : ∃ g a b, OnceI B.codes.length rd (vw (tPick B s x)) g a b := by
  refine pick_keeps (I := fun v => ∃ g a b, OnceI B.codes.length rd v g a b) hw H (fun t ht hb => ?_) (fun t ht hst => ?_) (fun t ht _ => ?_) x
  · obtain ⟨g, a, b, H⟩ := H
    exact ⟨g, a, b, H.flush ht hb⟩
  · obtain ⟨g, a, b, H⟩ := H
    obtain ⟨n, o, hpc, hl | hl⟩ := H.loc t ht
    · obtain ⟨op, hop, hk⟩ := once_exec H ht hl.1 hl.2.1 hl.2.2.2
      exact .inl ⟨n * 41 + o, _, op, (hC t ht).at_ hw ht hl.1 hop (Th.parts hpc hst), fun h1 _ => hk h1⟩
    · refine .inr ⟨?_, g, a, b, H.quiet ht (fun x hx => nu_kind (by rw [List.mem_singleton.1 hx]; exact (by decide : (12 : Int) ≠ 7))) ⟨n, o, hpc, .inr ⟨hl.1, hl.2.1, .inr rfl, hl.2.2.2.1, hl.2.2.2.2⟩⟩⟩
      rw [(hC t ht).len]
      have hpc' : (thM s t).pc = ((n * 41 + o : Nat) : Int) := hpc
      rw [hpc', hl.1, hl.2.1]
      exact Int.le_refl _
  · obtain ⟨g, a, b, H⟩ := H
    exact ⟨g, a, b, (H.quiet ht (fun x hx => nu_kind (by rw [List.mem_singleton.1 hx]; exact (by decide : (11 : Int) ≠ 7))) (H.loc t ht).run).slp _⟩
theorem once_run {B : MB} (hB : MBok B) {rd : Nat → Nat} (hC : ∀ t, t < B.codes.length → Coded B t (rd t) (fun n => n * 41) (fun n => onceL t (n * 41))) (l : List (Int × Int)) {s : Mst} (hw : Wf B s)
    (H : ∃ g a b, OnceI B.codes.length rd (vw s) g a b) : ∃ g a b, OnceI B.codes.length rd (vw (tRun B s l)) g a b :=
  (run_keeps (I := fun s => ∃ g a b, OnceI B.codes.length rd (vw s) g a b) hB (fun s x hw H => once_pick hw hC H x) l s hw H).2
theorem once_start {nt : Nat} {rd : Nat → Nat} {v : Vw} (h8 : nt ≤ 8) (h1 : ∀ t, v.th t = tha) (h2 : ∀ t, v.bf t = []) (h3 : v.mem 16 = 0 ∧ v.mem 17 = 0) (h4 : v.evs = []) : OnceI nt rd v .free 0 0 := by
  refine ⟨h8, ⟨h3.1, h3.2, rfl, rfl⟩, fun t ht => ⟨0, 0, by rw [h1]; rfl, ?_⟩, by rw [h4]; rfl, by rw [h4]; rfl, by rw [h4]; intro i x q; simp at q⟩
  rcases Nat.eq_zero_or_pos (rd t) with c | c
  · exact .inr ⟨c.symm, rfl, by rw [h1]; exact .inl rfl, by simp, h2 t⟩
  · exact .inl ⟨c, by decide, by rw [h1]; exact .inl rfl, by simp, h2 t⟩
theorem OLoc.counts {m : Int} {e5 e2 u rd : Nat} {th : Th} {b : List Ent} (h : OLoc (.busy u) m e5 e2 u rd th b) : e5 ≤ 1 ∧ e2 ≤ 1 := by
  obtain ⟨n, o, _, h | h⟩ := h
  · have hA := h.2.2.2
    have no : ∀ {p : Prop}, (Ph.busy u ≠ Ph.busy u) → p := fun q => absurd rfl q
    unfold oA at hA
    split at hA
    all_goals first
      | exact hA.elim
      | exact no hA.1
      | (have h3 := hA.2.2.1; have h4 := hA.2.2.2; omega)
      | (have h3 := hA.2.2.1; have h4 := hA.2.2.2.1; omega)
      | (have h3 := hA.2.2.2.2.1; have h4 := hA.2.2.2.2.2; omega)
      | (rcases hA with q | q; exact no q.1; have h3 := q.2.2.1; have h4 := q.2.2.2.1; omega)
      | (rcases hA with q | q; exact no q.1; have h3 := q.2.2.2.2.2.1; have h4 := q.2.2.2.2.2.2; omega)
  · exact absurd rfl h.2.2.2.1
theorem OnceI.counts {nt : Nat} {rd : Nat → Nat} {v : Vw} {g : Ph} {e5 e2 : Nat} (H : OnceI nt rd v g e5 e2) : cntE (isMV 1 5) v.evs ≤ 1 ∧ cntE (isM 2) v.evs ≤ 1 := by
  rw [H.h5, H.h2]
  cases g with
  | free => have := H.sh; exact ⟨by rw [this.2.2.1]; decide, by rw [this.2.2.2]; decide⟩
  | busy u => exact (H.loc u H.sh.2).counts
  | over => have := H.sh; exact ⟨this.2.2.1, by rw [this.2.2.2]; decide⟩
theorem cntE_one {f : Evt → Bool} : ∀ {l : List Evt}, cntE f l ≤ 1 → ∀ {i j : Nat} {x y : Evt}, l[i]? = some x → l[j]? = some y → f x = true → f y = true → i = j
  | [], _, i, j, x, y, hx, _, _, _ => by simp at hx
  | z :: l, h, i, j, x, y, hx, hy, fx, fy => by
    have pos : ∀ {k : Nat} {w : Evt}, l[k]? = some w → f w = true → 1 ≤ cntE f l := fun {k w} hk fw => by
      unfold cntE
      exact List.length_pos_of_mem (List.mem_filter.2 ⟨List.mem_of_getElem? hk, fw⟩)
    have hz : f z = true → cntE f l = 0 := fun q => by
      unfold cntE at h ⊢
      rw [List.filter_cons_of_pos q, List.length_cons] at h
      omega
    have hl : cntE f l ≤ 1 := by
      unfold cntE at h ⊢
      by_cases q : f z = true
      · rw [List.filter_cons_of_pos q, List.length_cons] at h; omega
      · rw [List.filter_cons_of_neg q] at h; exact h
    rcases i with _ | i <;> rcases j with _ | j
    · rfl
    · have e : z = x := by simpa using hx
      have := pos (by simpa using hy) fy
      have := hz (by rw [e]; exact fx)
      omega
    · have e : z = y := by simpa using hy
      have := pos (by simpa using hx) fx
      have := hz (by rw [e]; exact fy)
      omega
    · have := cntE_one hl (i := i) (j := j) (x := x) (y := y) (by simpa using hx) (by simpa using hy) fx fy
      omega
end Go.Proofs.YtmhfpjnkjlhbpaaGreatDoor
namespace Go.Proofs.YtmhfpjnkjlhbpaaGreatDoor
open Go.ChangeShapes Go.WideShapes Go.ChangeAt Go.RowKit Go.Deep
set_option linter.unusedVariables false
set_option maxRecDepth 100000
set_option linter.unusedSimpArgs false

structure EvB where
  (kind who pc addr value old k : Int)
  ok : Bool
  k0 : 0 ≤ k
  k1 : k ≤ 4294967295
instance : Inhabited EvB := ⟨⟨0, 0, 0, 0, 0, 0, 0, false, by decide, by decide⟩⟩
def EvB.cells (x : EvB) : List Value := [.int .i64 x.kind, .int .i64 x.who, .int .i64 x.pc, .int .i64 x.addr, .int .u32 x.value, .int .u32 x.old, .int .u32 x.k, .bool x.ok]
def EvB.val (x : EvB) : Value := .agg #[.int .i64 x.kind, .int .i64 x.who, .int .i64 x.pc, .int .i64 x.addr, .int .u32 x.value, .int .u32 x.old, .int .u32 x.k, .bool x.ok]
def evsB (E : Nat → EvB) (t : Int) (k : Nat) : List (Nat × EvB) := ((List.range k).map fun i => (i, E i)).filter fun x => x.2.who == t
theorem evs_hitB {E : Nat → EvB} {t : Int} {k : Nat} (h : (E k).who = t) : evsB E t (k + 1) = evsB E t k ++ [(k, E k)] := by
  unfold evsB
  rw [List.range_succ, List.map_append, List.filter_append]
  congr 1
  show List.filter (fun x : Nat × EvB => x.2.who == t) [(k, E k)] = [(k, E k)]
  rw [List.filter_cons_of_pos (by simpa using h)]
  rfl
theorem evs_missB {E : Nat → EvB} {t : Int} {k : Nat} (h : (E k).who ≠ t) : evsB E t (k + 1) = evsB E t k := by
  unfold evsB
  rw [List.range_succ, List.map_append, List.filter_append]
  show _ ++ List.filter (fun x : Nat × EvB => x.2.who == t) [(k, E k)] = _
  rw [List.filter_cons_of_neg (by simpa using h)]
  simp
theorem evs_lenB (E : Nat → EvB) (t : Int) (k : Nat) : (evsB E t k).length ≤ k := by
  unfold evsB
  have := List.length_filter_le (fun x : Nat × EvB => x.2.who == t) ((List.range k).map fun i => (i, E i))
  simpa using this
end Go.Proofs.YtmhfpjnkjlhbpaaGreatDoor
namespace Go.Proofs.YtmhfpjnkjlhbpaaGreatDoor
open Go.ChangeShapes Go.WideShapes Go.ChangeAt Go.RowKit Go.Shelf
set_option linter.unusedVariables false
set_option maxRecDepth 100000
set_option linter.unusedSimpArgs false
attribute [local go_sem] Oper.semAt_some

def evEncB (x : Nat × EvB) : Array Value := #[.int .i64 (x.1 : Int), .agg #[.int .i64 x.2.kind, .int .i64 x.2.who, .int .i64 x.2.pc, .int .i64 x.2.addr, .int .u32 x.2.value, .int .u32 x.2.old, .int .u32 x.2.k, .bool x.2.ok]]

structure KpOfB (n₀ Bt : Nat) (A B : World) : Prop where
  below : Below n₀ A B
  keep : ∀ o, A.heap[Bt]? = some o → B.heap[Bt]? = some o
theorem KpOfB.refl (n₀ Bt : Nat) (A : World) : KpOfB n₀ Bt A A := ⟨Below.refl _ _, fun _ h => h⟩
theorem KpOfB.trans {n₀ Bt : Nat} {A B C : World} (h : KpOfB n₀ Bt A B) (k : KpOfB n₀ Bt B C) : KpOfB n₀ Bt A C := ⟨h.below.trans k.below, fun o ho => k.keep o (h.keep o ho)⟩
theorem KpOfB.of_below {n₀ Bt : Nat} {A B : World} (h : Below A.heap.size A B) (hn : n₀ ≤ A.heap.size) : KpOfB n₀ Bt A B :=
  ⟨h.mono hn, fun o ho => (h.block Bt (Array.getElem?_eq_some_iff.1 ho).1).trans ho⟩
theorem KpOfB.of_grown {n₀ Bt : Nat} {A B : World} {row : Option Nat} (hg : A.grownBy B row) (hn : n₀ ≤ A.heap.size) (hr : ∀ r, row = some r → n₀ ≤ r ∧ r ≠ Bt) : KpOfB n₀ Bt A B :=
  ⟨(Below.refl n₀ A).grown hg hn (fun k e => (hr k e).1), fun o ho => (hg.block Bt (Array.getElem?_eq_some_iff.1 ho).1 (fun e => (hr Bt e.symm).2 rfl)).trans ho⟩
theorem kpOf_bB {n₀ Bt : Nat} {w : World} (hn : n₀ ≤ w.heap.size) (hB : Bt < w.heap.size) (W : World) (l : Nat) (o o' : Obj) (hl : w.heap.size ≤ l) (h : W.heap[l]? = some o) (h1 : o.isCells = false) (h2 : o.isWalk = false) : KpOfB n₀ Bt W (W.putObj l o') :=
  KpOfB.of_grown (grownBy_putObj' W l o') (by have := (Array.getElem?_eq_some_iff.1 h).1; omega) (fun r e => by cases e; exact ⟨by omega, by omega⟩)

def OfEndB (E : Nat → EvB) (t : Int) (len : Nat) (J Jx : List (Nat × EvB) → World → Prop) (e : Ending) (W' : World) : Prop := (∃ v, e = .returned v) ∧ ((∃ ys, ys = evsB E t len ∧ J ys W') ∨ (∃ pre, True ∧ Jx pre W'))

set_option maxRecDepth 100000 in
set_option maxHeartbeats 2000000 in
theorem of1_inB (F : Fence) (n : Nat) (hFn : F.fn 109) (hro : F.round = none) (hn : 1 ≤ n) (l Bs Bt n₀ b off len cap : Nat) (E : Nat → EvB) (t : Int) (hl : len ≤ 1000000000) (hb : b < n₀) (J Jx : List (Nat × EvB) → World → Prop) (W : World) (hn₀ : n₀ ≤ W.heap.size)
    (hJ : AbidesFrom W.heap.size J)
    (hY : ∀ pre x W, J pre W → pre.length < len → YieldAt F (n - 1) Tryz.prog l (evEncB x) W fun e W' =>
      (e = .returned (.bool true) ∧ J (pre ++ [x]) W' ∧ KpOfB n₀ Bt W W') ∨ (e = .returned (.bool false) ∧ Jx (pre ++ [x]) W'))
    (hBs : W.cell? ⟨Bs, 0, none⟩ = some (.slice (some ⟨b, off, none⟩) len cap)) (ht : Blk W Bt 3 #[.int .i64 t]) (hc : ∀ i, i < len → ∀ j u, (E i).cells[j]? = some u → W.cell? ⟨b, off + i * 8 + j, none⟩ = some u) (h0 : J [] W) :
    CallsIn F n Tryz.prog 109 #[.func (.yield l) #[] #[], .pointer (some ⟨Bs, 0, none⟩), .pointer (some ⟨Bt, 0, none⟩)] W (OfEndB E t len J Jx) := by
  have hAl : ∀ pre W1 o, J pre W1 → J pre (W1.alloc o) := fun pre W1 o h => hJ pre W1 _ none h (World.grownBy_alloc W1 o none) (fun r e => by cases e)
  refine callsIn_of_wp Tryz.func109 rfl hFn ?_ hro
  simp only [Tryz.ntmps109, List.size_toArray, List.length_cons, List.length_nil, Nat.reduceAdd, Nat.reduceSub, Array.replicate_succ, Array.replicate_zero, List.push_toArray, List.append_toArray, List.nil_append, List.cons_append]
  gi_wp2
  gi_loopw [8] (fun i wr => ∃ k : Nat, k ≤ len ∧ i = .int .i64 k ∧ J (evsB E t k) wr ∧ KpOfB n₀ Bt W wr) (fun i _ => len - (intOf i).toNat)
  case atStart => exact ⟨0, Nat.zero_le _, rfl, h0, KpOfB.refl _ _ _⟩
  case round =>
    obtain ⟨k, hk, rfl, hJs, hnx⟩ := hrel
    by_cases hlt : k < len
    · have hcx : ∀ j u, (E k).cells[j]? = some u → wr.cell? ⟨b, off + k * 8 + j, none⟩ = some u := fun j u hu => (hnx.below.cell (p := ⟨b, _, none⟩) hb).trans (hc k hlt j u hu)
      have htx : Blk wr Bt 3 #[.int .i64 t] := hnx.keep _ ht
      have hlt' : (k : Int) < (len : Int) := by omega
      obtain ⟨x, hx⟩ : ∃ x, E k = x := ⟨_, rfl⟩
      rw [hx] at hcx
      have c0 := hcx 0 _ rfl
      have c1 := hcx 1 _ rfl
      have c2 := hcx 2 _ rfl
      have c3 := hcx 3 _ rfl
      have c4 := hcx 4 _ rfl
      have c5 := hcx 5 _ rfl
      have c6 := hcx 6 _ rfl
      have c7 := hcx 7 _ rfl
      rw [Nat.add_zero] at c0
      clear hcx
      have hal := (Below.refl wr.heap.size wr).alloc (Nat.le_refl _) (.cells #[.int .i64 x.kind, .int .i64 x.who, .int .i64 x.pc, .int .i64 x.addr, .int .u32 x.value, .int .u32 x.old, .int .u32 x.k, .bool x.ok] 65)
      have htz : (wr.alloc (.cells #[.int .i64 x.kind, .int .i64 x.who, .int .i64 x.pc, .int .i64 x.addr, .int .u32 x.value, .int .u32 x.old, .int .u32 x.k, .bool x.ok] 65)).cell? ⟨Bt, 0, none⟩ = some (.int .i64 t) := ((htx.alloc _).cell 0).trans rfl
      have hJ1 := hAl _ wr (.cells #[.int .i64 x.kind, .int .i64 x.who, .int .i64 x.pc, .int .i64 x.addr, .int .u32 x.value, .int .u32 x.old, .int .u32 x.k, .bool x.ok] 65) hJs
      have hn1 : KpOfB n₀ Bt W (wr.alloc (.cells #[.int .i64 x.kind, .int .i64 x.who, .int .i64 x.pc, .int .i64 x.addr, .int .u32 x.value, .int .u32 x.old, .int .u32 x.k, .bool x.ok] 65)) := hnx.trans (KpOfB.of_below hal (Nat.le_trans hn₀ hnx.below.size))
      have HX := Lib.hid hx
      clear hx hal
      by_cases hw : x.who = t
      · have hwb : (x.who == t) = true := by simpa using hw
        have HW := Lib.hid hw
        clear hw
        obtain ⟨fn, tmps, assign, body, hy, hR⟩ := hY _ (k, x) _ hJ1 (Nat.lt_of_le_of_lt (evs_lenB E t k) hlt)
        unfold evEncB at hy
        dsimp only at hy
        gi_wp2
        refine hR.mono ?_
        rintro e W3 (⟨rfl, hJ3, hk3⟩ | ⟨rfl, hJx3⟩)
        · gi_wp2
          go_roundw
          case rel => exact ⟨k + 1, by omega, by go_num, by rw [evs_hitB (by rw [HX.out]; exact HW.out), HX.out]; exact hJ3, hn1.trans hk3⟩
          case measure => simp [intOf]; omega
        · gi_wp2
          refine bodyPost_ret (results_none rfl _ _ _) rfl ?_
          exact ⟨⟨_, rfl⟩, .inr ⟨_, trivial, hJx3⟩⟩
      · have hwb : (x.who == t) = false := by simpa using hw
        have HW := Lib.hid hw
        clear hw
        gi_wp2
        refine ⟨fun _ h => (by cases h), ?_⟩
        gi_wp2
        go_roundw
        case rel => exact ⟨k + 1, by omega, by go_num, by rw [evs_missB (by rw [HX.out]; exact HW.out)]; exact hJ1, hn1⟩
        case measure => simp [intOf]; omega
    · obtain rfl : k = len := by omega
      have hlt' : ¬ (k : Int) < (k : Int) := by omega
      gi_wp2
      go_end0
      exact ⟨⟨_, rfl⟩, .inl ⟨_, rfl, hJs⟩⟩

theorem of_inB (F : Fence) (n : Nat) (hFn : F.fn 66) (hro : F.round = none) (A : Option Addr) (len cap : Nat) (t : Int) (w : World) :
    CallsIn F n Tryz.prog 66 #[.slice A len cap, .int .i64 t] w fun e w' => e = .returned (.func (.func 109) #[] #[.pointer (some ⟨w.heap.size, 0, none⟩), .pointer (some ⟨w.heap.size + 1, 0, none⟩)]) ∧
      w' = (w.alloc (.cells #[.slice A len cap] 40)).alloc (.cells #[.int .i64 t] 3) := by
  refine callsIn_of_wp Tryz.func66 rfl hFn ?_ hro
  simp only [Tryz.ntmps66, List.size_toArray, List.length_cons, List.length_nil, Nat.reduceAdd, Nat.reduceSub, Array.replicate_succ, Array.replicate_zero, List.push_toArray, List.append_toArray, List.nil_append, List.cons_append]
  gi_wp2
  go_ret
  exact ⟨rfl, rfl⟩

set_option maxRecDepth 100000 in
set_option maxHeartbeats 1000000 in
theorem of1_nil_inB (F : Fence) (n : Nat) (hFn : F.fn 109) (hro : F.round = none) (l Bs Bt cap : Nat) (A : Option Addr) (E : Nat → EvB) (t : Int) (J Jx : List (Nat × EvB) → World → Prop) (W : World)
    (hBs : W.cell? ⟨Bs, 0, none⟩ = some (.slice A 0 cap)) (h0 : J [] W) :
    CallsIn F n Tryz.prog 109 #[.func (.yield l) #[] #[], .pointer (some ⟨Bs, 0, none⟩), .pointer (some ⟨Bt, 0, none⟩)] W (OfEndB E t 0 J Jx) := by
  refine callsIn_of_wp Tryz.func109 rfl hFn ?_ hro
  simp only [Tryz.ntmps109, List.size_toArray, List.length_cons, List.length_nil, Nat.reduceAdd, Nat.reduceSub, Array.replicate_succ, Array.replicate_zero, List.push_toArray, List.append_toArray, List.nil_append, List.cons_append]
  gi_wp2
  gi_loopw [8] (fun i wr => i = .int .i64 0 ∧ J [] wr) (fun _ _ => 0)
  case atStart => exact ⟨rfl, h0⟩
  case round =>
    obtain ⟨rfl, hJs⟩ := hrel
    gi_wp2
    go_end0
    exact ⟨⟨_, rfl⟩, .inl ⟨_, rfl, hJs⟩⟩

theorem of_stopsB (F : Fence) (n : Nat) (hFn : F.fn 109) (hro : F.round = none) (hn : 1 ≤ n) (Bs Bt n₀ : Nat) (A : Option Addr) (len cap : Nat) (E : Nat → EvB) (t : Int) (hl : len ≤ 1000000000) (w : World) (hBs : Bs < w.heap.size) (hn₀ : n₀ ≤ w.heap.size)
    (hc : w.cell? ⟨Bs, 0, none⟩ = some (.slice A len cap)) (ht : Blk w Bt 3 #[.int .i64 t]) (hb : 0 < len → ∀ b off, A = some ⟨b, off, none⟩ → b < n₀) (hs : SlE w A len 8 (fun i => (E i).cells)) :
    SeqStopsK F n Tryz.prog 109 #[.pointer (some ⟨Bs, 0, none⟩), .pointer (some ⟨Bt, 0, none⟩)] evEncB (KpOfB n₀ Bt) (fun ys => ys = evsB E t len) (fun _ => True) len w := fun l J Jx W hW hJ _ hY h0 => by
  have hc' := (hW.cell (p := ⟨Bs, 0, none⟩) hBs).trans hc
  have ht' := ht.below hW ht.lt
  rcases Nat.eq_zero_or_pos len with rfl | hp
  · exact of1_nil_inB F n hFn hro l Bs Bt cap A E t J Jx W hc' h0
  · obtain ⟨b, off, rfl, hlt, hcc⟩ := hs hp
    exact of1_inB F n hFn hro hn l Bs Bt n₀ b off len cap E t hl (hb hp b off rfl) J Jx W (Nat.le_trans hn₀ hW.size) hJ hY hc' ht' (fun i hi j u hu => (hW.cell (p := ⟨b, _, none⟩) hlt).trans (hcc i hi j u hu)) h0
def tvArrB (x : EvB) : Array Value := #[.int .i64 x.kind, .int .i64 x.who, .int .i64 x.pc, .int .i64 x.addr, .int .u32 x.value, .int .u32 x.old, .int .u32 x.k, .bool x.ok]
end Go.Proofs.YtmhfpjnkjlhbpaaGreatDoor
namespace Go.Proofs.YtmhfpjnkjlhbpaaGreatDoor
open Go.ChangeShapes Go.WideShapes Go.ChangeAt Go.RowKit Go.Deep
set_option linter.unusedVariables false
set_option maxRecDepth 100000
set_option linter.unusedSimpArgs false

structure Ev where
  (kind who pc addr value old k : Int)
  ok : Bool
instance : Inhabited Ev := ⟨⟨0, 0, 0, 0, 0, 0, 0, false⟩⟩
def Ev.cells (x : Ev) : List Value := [.int .i64 x.kind, .int .i64 x.who, .int .i64 x.pc, .int .i64 x.addr, .int .u32 x.value, .int .u32 x.old, .int .u32 x.k, .bool x.ok]
def Ev.val (x : Ev) : Value := .agg #[.int .i64 x.kind, .int .i64 x.who, .int .i64 x.pc, .int .i64 x.addr, .int .u32 x.value, .int .u32 x.old, .int .u32 x.k, .bool x.ok]
def evs (E : Nat → Ev) (t : Int) (k : Nat) : List (Nat × Ev) := ((List.range k).map fun i => (i, E i)).filter fun x => x.2.who == t
end Go.Proofs.YtmhfpjnkjlhbpaaGreatDoor
namespace Go.Proofs.YtmhfpjnkjlhbpaaGreatDoor
open Go.ChangeShapes Go.WideShapes Go.ChangeAt Go.RowKit Go.Shelf
set_option linter.unusedVariables false
set_option maxRecDepth 100000
set_option linter.unusedSimpArgs false
attribute [local go_sem] Oper.semAt_some

def evEnc (x : Nat × Ev) : Array Value := #[.int .i64 (x.1 : Int), .agg #[.int .i64 x.2.kind, .int .i64 x.2.who, .int .i64 x.2.pc, .int .i64 x.2.addr, .int .u32 x.2.value, .int .u32 x.2.old, .int .u32 x.2.k, .bool x.2.ok]]

structure KpOf (n₀ Bt : Nat) (A B : World) : Prop where
  below : Below n₀ A B
  keep : ∀ o, A.heap[Bt]? = some o → B.heap[Bt]? = some o
theorem KpOf.refl (n₀ Bt : Nat) (A : World) : KpOf n₀ Bt A A := ⟨Below.refl _ _, fun _ h => h⟩
theorem KpOf.trans {n₀ Bt : Nat} {A B C : World} (h : KpOf n₀ Bt A B) (k : KpOf n₀ Bt B C) : KpOf n₀ Bt A C := ⟨h.below.trans k.below, fun o ho => k.keep o (h.keep o ho)⟩
theorem KpOf.of_below {n₀ Bt : Nat} {A B : World} (h : Below A.heap.size A B) (hn : n₀ ≤ A.heap.size) : KpOf n₀ Bt A B :=
  ⟨h.mono hn, fun o ho => (h.block Bt (Array.getElem?_eq_some_iff.1 ho).1).trans ho⟩
theorem KpOf.of_grown {n₀ Bt : Nat} {A B : World} {row : Option Nat} (hg : A.grownBy B row) (hn : n₀ ≤ A.heap.size) (hr : ∀ r, row = some r → n₀ ≤ r ∧ r ≠ Bt) : KpOf n₀ Bt A B :=
  ⟨(Below.refl n₀ A).grown hg hn (fun k e => (hr k e).1), fun o ho => (hg.block Bt (Array.getElem?_eq_some_iff.1 ho).1 (fun e => (hr Bt e.symm).2 rfl)).trans ho⟩
def OfEnd (E : Nat → Ev) (t : Int) (len : Nat) (J Jx : List (Nat × Ev) → World → Prop) (e : Ending) (W' : World) : Prop := (∃ v, e = .returned v) ∧ ((∃ ys, ys = evs E t len ∧ J ys W') ∨ (∃ pre, True ∧ Jx pre W'))

end Go.Proofs.YtmhfpjnkjlhbpaaGreatDoor
namespace Go.Proofs.YtmhfpjnkjlhbpaaGreatDoor
open Go.ChangeShapes Go.WideShapes Go.ChangeAt Go.RowKit Go.Shelf
set_option linter.unusedVariables false
set_option maxRecDepth 100000
set_option linter.unusedSimpArgs false
attribute [local go_sem] Oper.semAt_some

def oL (pre : List (Nat × Ev)) : List Int := (pre.filter fun x => x.2.kind == 6).map fun x => x.2.value
theorem blk_kept {X Y : World} {B : Nat} {t : TypeId} {cs : Array Value} {row : Option Nat} (h : Blk X B t cs) (hg : X.grownBy Y row) (hr : ∀ r, row = some r → ∃ o : Obj, X.heap[r]? = some o ∧ o.isCells = false) : Blk Y B t cs :=
  h.grown hg (fun e => by
    obtain ⟨o, ho, hc⟩ := hr B e.symm
    unfold Blk at h
    rw [h] at ho
    cases ho
    cases hc)
def tvArr (x : Ev) : Array Value := #[.int .i64 x.kind, .int .i64 x.who, .int .i64 x.pc, .int .i64 x.addr, .int .u32 x.value, .int .u32 x.old, .int .u32 x.k, .bool x.ok]

end Go.Proofs.YtmhfpjnkjlhbpaaGreatDoor
