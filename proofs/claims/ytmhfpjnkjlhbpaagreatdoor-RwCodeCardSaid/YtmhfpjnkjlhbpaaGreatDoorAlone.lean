/- RwCode. -/
import Derived.Test.YtmhfpjnkjlhbpaaGreatDoorBldC
import Derived.Laws.OwnMore
import Derived.Test.YtmhfpjnkjlhbpaaGreatDoorTsA4
import Derived.Test.YtmhfpjnkjlhbpaaGreatDoorTsTz
import Derived.Test.YtmhfpjnkjlhbpaaGreatDoorTrOuts
namespace Go.Proofs.YtmhfpjnkjlhbpaaGreatDoor
open Go.ChangeShapes Go.WideShapes Go.ChangeAt Go.RowKit Go.Deep
set_option linter.unusedVariables false
set_option maxRecDepth 100000
set_option linter.unusedSimpArgs false
def outsP (l : List Evt) : List Int := (l.filter fun x => x.who == 0 && x.kind == 6).map fun x => x.value
def aB (l : List Ins) (room : Int) (m : Nat) : MB := ⟨0, [⟨none, l.length, 0, fun i => l.getD i default⟩], room, m⟩
def aS (m : Nat) : Mst := ⟨[tha], [[]], List.replicate m 0, [], [], 0⟩
def okB (x : Ins) : Bool := decide (0 ≤ x.op ∧ x.op ≤ 100 ∧ 0 ≤ x.a ∧ x.a ≤ 100 ∧ 0 ≤ x.b ∧ x.b ≤ 100 ∧ 0 ≤ x.c ∧ x.c ≤ 100 ∧ 0 ≤ x.k ∧ x.k ≤ 4294967295)
theorem okB_ok {x : Ins} (h : okB x = true) : x.Ok := by
  unfold okB at h
  have h := of_decide_eq_true h
  obtain ⟨op, a, b, c, k⟩ := x
  exact insOk ⟨⟨h.1, h.2.1⟩, ⟨h.2.2.1, h.2.2.2.1⟩, ⟨h.2.2.2.2.1, h.2.2.2.2.2.1⟩, ⟨h.2.2.2.2.2.2.1, h.2.2.2.2.2.2.2.1⟩, h.2.2.2.2.2.2.2.2⟩
theorem movedI_ok {q : Ins} (h : q.Ok) (z : Int) : (movedI z q).Ok := by
  unfold movedI
  split
  · exact ⟨h.op0, h.op1, h.a0, h.a1, h.b0, h.b1, h.c0, h.c1, by show 0 ≤ aluF 3 q.k z; unfold aluF; rw [if_pos rfl]; omega, by show aluF 3 q.k z ≤ 4294967295; unfold aluF; rw [if_pos rfl]; omega⟩
  · exact h
theorem out_ok {a : Int} (ha : 0 ≤ a ∧ a ≤ 100) : (⟨22, a, 0, 0, 0⟩ : Ins).Ok := insOk ⟨⟨by decide, by decide⟩, ha, ⟨by decide, by decide⟩, ⟨by decide, by decide⟩, by decide, by decide⟩
theorem sl_ins {W : World} {g cap : Nat} {cs : Array Value} {l : List Ins} (hb : Blk W g 75 cs) (h : ∀ i, i < l.length → InsAt cs i (l.getD i default)) : Sl W (some ⟨g, 0, none⟩) (l.length * 5) (fun k => (l.flatMap Ins.cells).getD k undef) := fun hpos => by
  refine ⟨g, 0, rfl, hb.lt, fun k hk => ?_⟩
  have hi : k / 5 < l.length := by omega
  have hj : k % 5 < 5 := by omega
  have e := flat_get Ins.cells 5 (fun _ => rfl) default l (k / 5) hi (k % 5) hj
  rw [show k / 5 * 5 + k % 5 = k by omega] at e
  have hlt : k % 5 < ((l.getD (k / 5) default).cells).length := hj
  rw [List.getElem?_eq_getElem hlt] at e
  have := h (k / 5) hi (k % 5) _ (List.getElem?_eq_getElem hlt)
  rw [show k / 5 * 5 + k % 5 = k by omega] at this
  rw [Nat.zero_add, hb.cell, this]
  have e2 : (l.flatMap Ins.cells).getD k undef = ((l.getD (k / 5) default).cells)[k % 5] := by rw [List.getD_eq_getElem?_getD, e]; rfl
  exact congrArg some e2.symm
theorem ins_cells_one (l : List Ins) : ∀ k, k < l.length * 5 → ((l.flatMap Ins.cells).getD k undef).oneCell' = true := fun k hk => by
  have hj : k % 5 < 5 := by omega
  have e := flat_get Ins.cells 5 (fun _ => rfl) default l (k / 5) (by omega) (k % 5) hj
  rw [show k / 5 * 5 + k % 5 = k by omega] at e
  rw [List.getD_eq_getElem?_getD, e]
  have : k % 5 = 0 ∨ k % 5 = 1 ∨ k % 5 = 2 ∨ k % 5 = 3 ∨ k % 5 = 4 := by omega
  rcases this with h | h | h | h | h <;> rw [h] <;> rfl
theorem wpList_append_ins {w : World} {ops : Array Oper} {rest : List Oper} {o : Oper} {a : Act} {Q : Exit → Act → World → Prop} (hgd : o.guard = none) (s x : Operand)
    (ho : o.op = .call { callee := .builtin .append, args := #[s, x], argTypes := #[50, 50] }) (base : Nat) (v : Value) (l l2 : List Ins) (hs : a.eval s = v) (hown : w.ownsRow base 75 5 v l.length (l.flatMap Ins.cells))
    (A : Option Addr) (c : Nat) (hx : a.eval x = .slice A l2.length c) (hr : Sl w A (l2.length * 5) (fun k => (l2.flatMap Ins.cells).getD k undef)) (hb : l.length + l2.length ≤ 1000000) (hbase : base ≤ w.heap.size)
    (h : ∀ A' c' w', w'.ownsRow base 75 5 (.slice A' (l ++ l2).length c') (l ++ l2).length ((l ++ l2).flatMap Ins.cells) → w.grownBy w' v.ownBlock → Below base w w' → wpList Tryz.prog ops Q rest (a.put o.dst (.slice A' (l ++ l2).length c')) w') : wpList Tryz.prog ops Q (o :: rest) a w := by
  obtain ⟨i0, hi, hy0, hy1, hy2⟩ := info_parts insB_info5
  refine wpList_append_sl w hgd s x 50 ho base 75 i0 _ 5 40 Tryz.underlying50 hi hy0 hy1 hy2 rfl (by omega) v l.length _ hs hown A l2.length c (fun k => (l2.flatMap Ins.cells).getD k undef) hx hr (ins_cells_one l2) (by unfold maxLen; omega) (by omega) hbase ?_
  intro v' w' h1 h2 _
  have hl2 : (l2.flatMap Ins.cells).length = l2.length * 5 := by
    clear hr hb hx h h1 h2
    induction l2 with
    | nil => rfl
    | cons y l2 ih => rw [List.flatMap_cons, List.length_append, ih]; show 5 + _ = _; rw [List.length_cons]; omega
  rw [range_getD _ _ hl2, ← List.flatMap_append] at h1
  have hw := below_of_grown hbase h2 fun g e => (own_in hown g e).1
  rw [show l.length + l2.length = (l ++ l2).length from by simp] at h1
  obtain ⟨A', c', rfl, _, _⟩ := own_cap h1
  exact h A' c' w' h1 h2 hw
theorem sle_ins {W : World} {g : Nat} {cs : Array Value} {l : List Ins} (hb : Blk W g 75 cs) (h : ∀ i, i < l.length → InsAt cs i (l.getD i default)) : SlE W (some ⟨g, 0, none⟩) l.length 5 (fun i => (l.getD i default).cells) := fun hpos =>
  ⟨g, 0, rfl, hb.lt, fun i hi j u hu => by rw [hb.cell, Nat.zero_add]; exact h i hi j u hu⟩
theorem sl_one (W : World) (x : Ins) : Sl (W.alloc (.cells x.cells.toArray 75)) (some ⟨W.heap.size, 0, none⟩) ([x].length * 5) (fun k => ([x].flatMap Ins.cells).getD k undef) :=
  sl_ins (cap := 0) (Blk.new _ _ _) fun i hi j u hu => by
    obtain rfl : i = 0 := by simp at hi; omega
    rw [Nat.zero_mul, Nat.zero_add]
    simpa using hu
theorem own_re {W : World} {b s n k m c : Nat} {e : TypeId} {A : Option Addr} {xs : List Value} (h : W.ownsRow b e s (.slice A n c) m xs) (hn : n = k) : W.ownsRow b e s (.slice A k c) m xs := hn ▸ h
theorem tOps_same {B D : MB} (hm : B.m = D.m) (hr : B.room = D.room) (t : Nat) : tOps B t = tOps D t := by unfold tOps; rw [hm, hr]
theorem stepR_same {σ : Type} (O : Ops σ) (s : σ) (t : Th) (c d : Cd) (hl : c.len = d.len) (hF : c.F = d.F) : stepR O s t c = stepR O s t d := by unfold stepR; rw [hl, hF]
theorem tPick_same {B D : MB} (hm : B.m = D.m) (hr : B.room = D.room) (hc : ∀ t, (B.codes.getD t cdd).len = (D.codes.getD t cdd).len ∧ (B.codes.getD t cdd).F = (D.codes.getD t cdd).F) (s : Mst) (x : Int × Int) : tPick B s x = tPick D s x := by
  unfold tPick tStep
  rw [tOps_same hm hr, stepR_same _ _ _ _ _ (hc _).1 (hc _).2]
theorem tRun_same {B D : MB} (hm : B.m = D.m) (hr : B.room = D.room) (hc : ∀ t, (B.codes.getD t cdd).len = (D.codes.getD t cdd).len ∧ (B.codes.getD t cdd).F = (D.codes.getD t cdd).F) (l : List (Int × Int)) : ∀ s, tRun B s l = tRun D s l := by
  induction l with
  | nil => intro s; rfl
  | cons x l ih => intro s; show tRun B (tPick B s x) l = tRun D (tPick D s x) l; rw [ih, tPick_same hm hr hc]
theorem words_infoA : (Tryz.prog.info? 42).map (fun i => (i.zero, i.size, i.bytes)) = some (some (.int .u32 0), 1, 4) := by kernel_rfl
theorem makeW (m : Nat) (hm : m ≤ 1000) (w : World) : (Instr.makeSlice 27 (.int .i64 (m : Int)) (.int .i64 (m : Int))).run Tryz.prog w = .ok (.slice (some ⟨w.heap.size, 0, none⟩) m m) (w.alloc (.cells (List.replicate m (Value.int .u32 0)).toArray 42)) := by
  obtain ⟨i, hi, hz, hs, hb⟩ := info_parts words_infoA
  have hr := run_make (P := Tryz.prog) w 27 42 i _ Tryz.underlying27 hi hz .i64 .i64 m m (by omega) (by omega) (by rw [hb]; omega) (by omega)
  rw [hs] at hr
  simp only [Int.toNat_natCast, Nat.mul_one] at hr
  have e : madeCells (Value.int .u32 0).cells m = (List.replicate m (Value.int .u32 0)).toArray := by
    exact Array.ext' (toList_madeCells_one _ _)
  rw [e] at hr
  exact hr
def aPg (a b : Nat) (A : Option Addr) (c : Nat) (l : List Ins) (room : Int) (m : Nat) : Pg := ⟨some ⟨a, 0, none⟩, 1, 1, fun _ => ⟨A, l.length, c, fun i => l.getD i default⟩, some ⟨b, 0, none⟩, m, m, fun _ => 0, room⟩
theorem aPg_ok (l : List Ins) (room : Int) (m : Nat) (hr : 1 ≤ room ∧ room ≤ 16) (hm : m ≤ 1024) (h1 : ∀ x ∈ l, x.Ok) (h2 : l.length ≤ 4000) (h3 : (l.all fun i => rightB i (l.length : Int)) = true) (base c : Nat) (A : Option Addr) (W : World) (own : W.ownsRow base 75 5 (.slice A l.length c) l.length (l.flatMap Ins.cells)) :
    (aPg W.heap.size (W.heap.size + 1) A c l room m).Ok ∧ Chk (aPg W.heap.size (W.heap.size + 1) A c l room m) (0 : Int) (0 : Int) 0 ∧
      (aPg W.heap.size (W.heap.size + 1) A c l room m).At ((W.alloc (.cells #[.slice A l.length c] 50)).alloc (.cells (List.replicate m (Value.int .u32 0)).toArray 42)) := by
  have hget : ∀ i, i < l.length → l.getD i default ∈ l := fun i hi => by rw [List.getD_eq_getElem?_getD, List.getElem?_eq_getElem hi]; exact List.getElem_mem hi
  obtain ⟨A', cap', e, hle, hsl⟩ := own_sle Ins.cells (fun _ => rfl) default l own
  obtain ⟨_, _, e2, hc1, hc2⟩ := own_cap own
  simp only [Value.slice.injEq] at e e2
  obtain ⟨rfl, _, rfl⟩ := e
  obtain ⟨_, _, rfl⟩ := e2
  have hO : (⟨A, l.length, c, fun i => l.getD i default⟩ : Cd).Ok := ⟨hc1, hc2, fun i hi => h1 _ (hget i hi)⟩
  have hmm : m ≤ maxLen := by unfold maxLen; omega
  refine ⟨⟨Nat.le_refl 1, (by decide : (1 : Nat) ≤ maxLen), Nat.le_refl m, hmm, fun _ _ => hO, fun _ _ => (by decide : (0 : Int) ≤ 0 ∧ (0 : Int) ≤ 4294967295), (by show -9223372036854775808 ≤ room; omega), (by show room ≤ 9223372036854775807; omega)⟩, .fine (by decide : 1 ≤ 1) (by decide : 1 ≤ 8) hr.1 hr.2 hm fun s _ => ⟨h2, fun j hj => List.all_eq_true.1 h3 _ (hget j hj)⟩, ?_⟩
  have hb := (Below.refl W.heap.size W).alloc (Nat.le_refl _) (.cells #[.slice A l.length c] 50)
  have hb2 := hb.alloc hb.size (.cells (List.replicate m (Value.int .u32 0)).toArray 42)
  have b1 := (Blk.new W 50 #[.slice A l.length c]).alloc (.cells (List.replicate m (Value.int .u32 0)).toArray 42)
  have b2 := Blk.new2 W (.cells #[.slice A l.length c] 50) 42 (List.replicate m (Value.int .u32 0)).toArray
  refine ⟨fun _ => ⟨_, 0, rfl, b1.lt, fun i hi => ?_⟩, fun t _ => SlE.step hsl hb2, fun _ => ⟨_, 0, rfl, b2.lt, fun i hi => ?_⟩⟩
  · obtain rfl : i = 0 := by have : i < 1 := hi; omega
    exact (b1.cell 0).trans rfl
  · have hi : i < m := hi
    rw [Nat.zero_add, b2.cell]
    show (List.replicate m (Value.int .u32 0)).toArray[i]? = some (.int .u32 0)
    simp only [List.getElem?_toArray, List.getElem?_replicate, if_pos hi]
theorem aStart (a b c : Nat) (A : Option Addr) (l : List Ins) (room : Int) (m : Nat) : t0 (aPg a b A c l room m) = aS m := by
  have e : (List.range m).map (fun _ : Nat => (0 : Int)) = List.replicate m 0 := by
    induction m with
    | zero => rfl
    | succ m ih => rw [List.range_succ, List.map_append, ih, List.replicate_succ']; rfl
  show (⟨List.replicate 1 tha, List.replicate 1 [], (List.range m).map fun _ => 0, [], [], 0⟩ : Mst) = aS m
  rw [e]; rfl
theorem aSame {l : List Ins} {room : Int} {m a b c : Nat} {A : Option Addr} {B : MB} (h : NewM (aPg a b A c l room m) B) (hr : B.room = room) (ps : List (Int × Int)) :
    tRun B (t0 (aPg a b A c l room m)) ps = tRun (aB l room m) (aS m) ps := by
  rw [aStart, tRun_same (D := aB l room m) h.m hr (fun t => ?_)]
  rcases Nat.lt_or_ge t 1 with ht | ht
  · obtain rfl : t = 0 := by omega
    have := h.cd 0 (show 0 < 1 by decide)
    exact ⟨this.1, this.2.1⟩
  · have e1 : B.codes.getD t cdd = cdd := by rw [List.getD_eq_getElem?_getD, List.getElem?_eq_none (by rw [h.n]; exact ht)]; rfl
    have e2 : (aB l room m).codes.getD t cdd = cdd := by rw [List.getD_eq_getElem?_getD, List.getElem?_eq_none (by exact ht)]; rfl
    rw [e1, e2]; exact ⟨rfl, rfl⟩
def toEv (x : Evt) : Ev := ⟨x.kind, x.who, x.pc, x.addr, x.value, x.old, x.k, x.ok⟩
def ev0 : Evt := ⟨0, 0, 0, 0, 0, 0, 0, false⟩
theorem oL_evs (l : List Evt) (t : Int) : oL (evs (fun i => toEv (l.getD i ev0)) t l.length) = (l.filter fun x => x.who == t && x.kind == 6).map fun x => x.value := by
  have : ∀ k, k ≤ l.length → oL (evs (fun i => toEv (l.getD i ev0)) t k) = ((l.take k).filter fun x => x.who == t && x.kind == 6).map fun x => x.value := by
    intro k hk
    induction k with
    | zero => rfl
    | succ k ih =>
      have ih := ih (by omega)
      unfold oL evs at ih ⊢
      rw [List.range_succ, List.map_append, List.filter_append, List.filter_append, List.map_append, ih, List.take_add_one, List.getElem?_eq_getElem (show k < l.length by omega), List.filter_append, List.map_append]
      congr 1
      have e : l.getD k ev0 = l[k] := by simp [List.getD_eq_getElem?_getD, List.getElem?_eq_getElem (show k < l.length by omega)]
      simp only [List.map_cons, List.map_nil, e, Option.toList_some]
      generalize l[k] = x
      unfold toEv
      by_cases c1 : x.who == t <;> by_cases c2 : x.kind == 6 <;> simp [c1, c2]
  have h := this l.length (Nat.le_refl _)
  rw [List.take_length] at h
  exact h
def cAdd (C : Nat → List Ins) (l : List Ins) (call : Nat) : List Ins := l ++ (C call).map (movedI (l.length : Int)) ++ [⟨22, 7, 0, 0, 0⟩]
def cTo (C : Nat → List Ins) (cs : List Nat) (k : Nat) : List Ins := (cs.take k).foldl (cAdd C) []
def cAll (C : Nat → List Ins) (cs : List Nat) : List Ins := cs.foldl (cAdd C) []
theorem cTo_all (C : Nat → List Ins) (cs : List Nat) : cTo C cs cs.length = cAll C cs := by unfold cTo cAll; rw [List.take_length]
theorem cTo_succ (C : Nat → List Ins) (cs : List Nat) (k : Nat) (hk : k < cs.length) : cTo C cs (k + 1) = cAdd C (cTo C cs k) (cs.getD k 0) := by
  unfold cTo
  rw [List.take_add_one, List.foldl_append, List.getElem?_eq_getElem hk]
  simp [List.getD, List.getElem?_eq_getElem hk]
theorem cs_in (cs : List Nat) (k : Nat) (hk : k < cs.length) : cs.getD k 0 ∈ cs := by rw [List.getD_eq_getElem?_getD, List.getElem?_eq_getElem hk]; exact List.getElem_mem hk
def CGood (C : Nat → List Ins) (cs : List Nat) : Prop := ∀ c ∈ cs, ((C c).all okB && decide ((C c).length ≤ 60)) = true
theorem cTo_ok {C : Nat → List Ins} {cs : List Nat} (h : CGood C cs) : ∀ k, k ≤ cs.length → (∀ x ∈ cTo C cs k, x.Ok) ∧ (cTo C cs k).length ≤ 61 * k := by
  intro k hk
  induction k with
  | zero => exact ⟨fun x hx => (by cases hx), Nat.le_refl _⟩
  | succ k ih =>
    obtain ⟨i1, i2⟩ := ih (by omega)
    rw [cTo_succ C cs k (by omega)]
    have hg := h _ (cs_in cs k (by omega))
    simp only [Bool.and_eq_true, decide_eq_true_eq, List.all_eq_true] at hg
    unfold cAdd
    refine ⟨fun x hx => ?_, by simp only [List.length_append, List.length_map, List.length_cons, List.length_nil]; omega⟩
    simp only [List.mem_append, List.mem_cons, List.not_mem_nil, or_false, List.mem_map] at hx
    rcases hx with (hx | ⟨y, hy, rfl⟩) | rfl
    · exact i1 x hx
    · exact movedI_ok (okB_ok (hg.1 y hy)) _
    · exact out_ok (by decide)
end Go.Proofs.YtmhfpjnkjlhbpaaGreatDoor
