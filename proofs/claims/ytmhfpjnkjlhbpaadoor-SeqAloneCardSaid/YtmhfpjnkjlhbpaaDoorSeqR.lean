/- seq (plain): what a thread alone is told. -/
import Derived.Test.YtmhfpjnkjlhbpaaDoorSeqCode
import Derived.Test.YtmhfpjnkjlhbpaaDoorTsA4
import Derived.Test.YtmhfpjnkjlhbpaaDoorTrOuts
namespace Go.Proofs.YtmhfpjnkjlhbpaaDoor
open Go.ChangeShapes Go.WideShapes Go.ChangeAt Go.RowKit Go.Deep
set_option linter.unusedVariables false
set_option maxRecDepth 100000
set_option linter.unusedSimpArgs false

/-- The code of a call, at 16, of thread 0. -/
def sqL (n : Nat) (at_ : Int) (call : Nat) : List Ins :=
  if call = 1 then ((BB.e.claim (16 + 1) 0).sbegin 16).close.out else if call = 2 then (((BB.e.prove (16 + 1) 0).smore 16).zero (16 + 1)).close.out
  else if call = 4 then (((BB.e.prove (16 + 1) 0).ins ⟨17, 0, 8, 0, 16 + 2 + at_⟩)).close.out else (BB.e.sread 16 n).close.out
def sqCalls : List Nat := [1, 1, 4, 2, 2, 4, 3]
def sqAdd (n : Nat) (at_ v : Int) (l : List Ins) (call : Nat) : List Ins := l ++ [⟨1, 0, 0, 0, v⟩] ++ (sqL n at_ call).map (movedI ((l.length : Int) + 1)) ++ [⟨22, 7, 0, 0, 0⟩]
def sqAll (n : Nat) (at_ v : Int) : List Ins := sqCalls.foldl (sqAdd n at_ v) [] ++ [⟨22, at_, 0, 0, 0⟩]
def outsP (l : List Evt) : List Int := (l.filter fun x => x.who == 0 && x.kind == 6).map fun x => x.value
def sqB (l : List Ins) : MB := ⟨0, [⟨none, l.length, 0, fun i => l.getD i default⟩], 2, 21⟩
def sqS : Mst := ⟨[tha], [[]], List.replicate 21 0, [], [], 0⟩
/-- The six cases. -/
theorem sq_six {n : Nat} {at_ : Int} (hn : 1 ≤ n ∧ n ≤ 3) (ha : 0 ≤ at_ ∧ at_ < n) (P : Nat → Int → Prop) (h1 : P 1 0) (h2 : P 2 0) (h3 : P 2 1) (h4 : P 3 0) (h5 : P 3 1) (h6 : P 3 2) : P n at_ := by
  have : (n = 1 ∧ at_ = 0) ∨ (n = 2 ∧ at_ = 0) ∨ (n = 2 ∧ at_ = 1) ∨ (n = 3 ∧ at_ = 0) ∨ (n = 3 ∧ at_ = 1) ∨ (n = 3 ∧ at_ = 2) := by omega
  rcases this with ⟨rfl, rfl⟩ | ⟨rfl, rfl⟩ | ⟨rfl, rfl⟩ | ⟨rfl, rfl⟩ | ⟨rfl, rfl⟩ | ⟨rfl, rfl⟩
  · exact h1
  · exact h2
  · exact h3
  · exact h4
  · exact h5
  · exact h6
theorem sq_run {n : Nat} {at_ : Int} (hn : 1 ≤ n ∧ n ≤ 3) (ha : 0 ≤ at_ ∧ at_ < n) (v : Int) : outsP (tRun (sqB (sqAll n at_ v)) sqS (List.replicate 400 (0, 0))).evs = [0, 1, 0, 0, 2, 2, 0, v] :=
  sq_six hn ha (fun n at_ => outsP (tRun (sqB (sqAll n at_ v)) sqS (List.replicate 400 (0, 0))).evs = [0, 1, 0, 0, 2, 2, 0, v]) (by kernel_rfl) (by kernel_rfl) (by kernel_rfl) (by kernel_rfl) (by kernel_rfl) (by kernel_rfl)
theorem sq_few {n : Nat} {at_ : Int} (hn : 1 ≤ n ∧ n ≤ 3) (ha : 0 ≤ at_ ∧ at_ < n) (v : Int) : (tRun (sqB (sqAll n at_ v)) sqS (List.replicate 400 (0, 0))).evs.length ≤ 1000 := by
  refine of_decide_eq_true ?_
  exact sq_six hn ha (fun n at_ => decide ((tRun (sqB (sqAll n at_ v)) sqS (List.replicate 400 (0, 0))).evs.length ≤ 1000) = true) (by kernel_rfl) (by kernel_rfl) (by kernel_rfl) (by kernel_rfl) (by kernel_rfl) (by kernel_rfl)
theorem sq_right {n : Nat} {at_ : Int} (hn : 1 ≤ n ∧ n ≤ 3) (ha : 0 ≤ at_ ∧ at_ < n) (v : Int) : ((sqAll n at_ v).all fun i => rightB i ((sqAll n at_ v).length : Int)) = true :=
  sq_six hn ha (fun n at_ => ((sqAll n at_ v).all fun i => rightB i ((sqAll n at_ v).length : Int)) = true) (by kernel_rfl) (by kernel_rfl) (by kernel_rfl) (by kernel_rfl) (by kernel_rfl) (by kernel_rfl)
def okB (x : Ins) : Bool := decide (0 ≤ x.op ∧ x.op ≤ 100 ∧ 0 ≤ x.a ∧ x.a ≤ 100 ∧ 0 ≤ x.b ∧ x.b ≤ 100 ∧ 0 ≤ x.c ∧ x.c ≤ 100 ∧ 0 ≤ x.k ∧ x.k ≤ 4294967295)
theorem okB_ok {x : Ins} (h : okB x = true) : x.Ok := by
  unfold okB at h
  have h := of_decide_eq_true h
  obtain ⟨op, a, b, c, k⟩ := x
  exact insOk ⟨⟨h.1, h.2.1⟩, ⟨h.2.2.1, h.2.2.2.1⟩, ⟨h.2.2.2.2.1, h.2.2.2.2.2.1⟩, ⟨h.2.2.2.2.2.2.1, h.2.2.2.2.2.2.2.1⟩, h.2.2.2.2.2.2.2.2⟩
theorem sq_good {n : Nat} {at_ : Int} (hn : 1 ≤ n ∧ n ≤ 3) (ha : 0 ≤ at_ ∧ at_ < n) (call : Nat) (hc : 1 ≤ call ∧ call ≤ 4) : ((sqL n at_ call).all okB && decide ((sqL n at_ call).length ≤ 20)) = true := by
  have h4 : call = 1 ∨ call = 2 ∨ call = 3 ∨ call = 4 := by omega
  refine sq_six hn ha (fun n at_ => ((sqL n at_ call).all okB && decide ((sqL n at_ call).length ≤ 20)) = true) ?_ ?_ ?_ ?_ ?_ ?_ <;> rcases h4 with rfl | rfl | rfl | rfl <;> kernel_rfl
theorem movedI_ok {q : Ins} (h : q.Ok) (z : Int) : (movedI z q).Ok := by
  unfold movedI
  split
  · exact ⟨h.op0, h.op1, h.a0, h.a1, h.b0, h.b1, h.c0, h.c1, by show 0 ≤ aluF 3 q.k z; unfold aluF; rw [if_pos rfl]; omega, by show aluF 3 q.k z ≤ 4294967295; unfold aluF; rw [if_pos rfl]; omega⟩
  · exact h
def sqTo (n : Nat) (at_ v : Int) (k : Nat) : List Ins := (sqCalls.take k).foldl (sqAdd n at_ v) []
theorem sqTo_succ (n : Nat) (at_ v : Int) (k : Nat) (hk : k < 7) : sqTo n at_ v (k + 1) = sqAdd n at_ v (sqTo n at_ v k) (sqCalls.getD k 0) := by
  unfold sqTo
  rw [List.take_add_one, List.foldl_append, List.getElem?_eq_getElem (show k < sqCalls.length from hk)]
  simp [List.getD, List.getElem?_eq_getElem (show k < sqCalls.length from hk)]
theorem sqCalls_in (k : Nat) (hk : k < 7) : 1 ≤ sqCalls.getD k 0 ∧ sqCalls.getD k 0 ≤ 4 := by
  rcases (by omega : k = 0 ∨ k = 1 ∨ k = 2 ∨ k = 3 ∨ k = 4 ∨ k = 5 ∨ k = 6) with rfl | rfl | rfl | rfl | rfl | rfl | rfl <;> decide
theorem set_ok {v : Int} (hv : 0 ≤ v ∧ v ≤ 4294967295) : (⟨1, 0, 0, 0, v⟩ : Ins).Ok := insOk ⟨⟨by decide, by decide⟩, ⟨by decide, by decide⟩, ⟨by decide, by decide⟩, ⟨by decide, by decide⟩, hv⟩
theorem out_ok {a : Int} (ha : 0 ≤ a ∧ a ≤ 100) : (⟨22, a, 0, 0, 0⟩ : Ins).Ok := insOk ⟨⟨by decide, by decide⟩, ha, ⟨by decide, by decide⟩, ⟨by decide, by decide⟩, by decide, by decide⟩
theorem sqTo_ok {n : Nat} {at_ v : Int} (hn : 1 ≤ n ∧ n ≤ 3) (ha : 0 ≤ at_ ∧ at_ < n) (hv : 0 ≤ v ∧ v ≤ 4294967295) : ∀ k, k ≤ 7 → (∀ x ∈ sqTo n at_ v k, x.Ok) ∧ (sqTo n at_ v k).length ≤ 22 * k := by
  intro k hk
  induction k with
  | zero => exact ⟨fun x hx => (by cases hx), Nat.le_refl _⟩
  | succ k ih =>
    obtain ⟨i1, i2⟩ := ih (by omega)
    rw [sqTo_succ n at_ v k (by omega)]
    have hg := sq_good hn ha _ (sqCalls_in k (by omega))
    simp only [Bool.and_eq_true, decide_eq_true_eq, List.all_eq_true] at hg
    unfold sqAdd
    refine ⟨fun x hx => ?_, by simp only [List.length_append, List.length_map, List.length_cons, List.length_nil]; omega⟩
    simp only [List.mem_append, List.mem_cons, List.not_mem_nil, or_false, List.mem_map] at hx
    rcases hx with ((hx | rfl) | ⟨y, hy, rfl⟩) | rfl
    · exact i1 x hx
    · exact set_ok hv
    · exact movedI_ok (okB_ok (hg.1 y hy)) _
    · exact out_ok (by decide)
theorem sqAll_ok {n : Nat} {at_ v : Int} (hn : 1 ≤ n ∧ n ≤ 3) (ha : 0 ≤ at_ ∧ at_ < n) (hv : 0 ≤ v ∧ v ≤ 4294967295) : (∀ x ∈ sqAll n at_ v, x.Ok) ∧ (sqAll n at_ v).length ≤ 155 := by
  obtain ⟨h1, h2⟩ := sqTo_ok hn ha hv 7 (Nat.le_refl _)
  have e : sqAll n at_ v = sqTo n at_ v 7 ++ [⟨22, at_, 0, 0, 0⟩] := rfl
  rw [e]
  refine ⟨fun x hx => ?_, by rw [List.length_append]; simp; omega⟩
  rcases List.mem_append.1 hx with hx | hx
  · exact h1 x hx
  · rw [List.mem_singleton.1 hx]; exact out_ok (by omega)
theorem sl_ins {W : World} {g cap : Nat} {cs : Array Value} {l : List Ins} (hb : Blk W g 41 cs) (h : ∀ i, i < l.length → InsAt cs i (l.getD i default)) : Sl W (some ⟨g, 0, none⟩) (l.length * 5) (fun k => (l.flatMap Ins.cells).getD k undef) := fun hpos => by
  refine ⟨g, 0, rfl, hb.lt, fun k hk => ?_⟩
  have hi : k / 5 < l.length := by omega
  have hj : k % 5 < 5 := by omega
  have e := flat_get Ins.cells 5 (fun _ => rfl) default l (k / 5) hi (k % 5) hj
  rw [show k / 5 * 5 + k % 5 = k by omega] at e
  have hlt : k % 5 < ((l.getD (k / 5) default).cells).length := hj
  rw [List.getElem?_eq_getElem hlt] at e
  have := h (k / 5) hi (k % 5) _ (List.getElem?_eq_getElem hlt)
  rw [show k / 5 * 5 + k % 5 = k by omega] at this
  rw [Nat.zero_add, hb.cell, this]
  have e2 : (l.flatMap Ins.cells).getD k undef = ((l.getD (k / 5) default).cells)[k % 5] := by rw [List.getD_eq_getElem?_getD, e]; rfl
  exact congrArg some e2.symm
theorem ins_cells_one (l : List Ins) : ∀ k, k < l.length * 5 → ((l.flatMap Ins.cells).getD k undef).oneCell' = true := fun k hk => by
  have hj : k % 5 < 5 := by omega
  have e := flat_get Ins.cells 5 (fun _ => rfl) default l (k / 5) (by omega) (k % 5) hj
  rw [show k / 5 * 5 + k % 5 = k by omega] at e
  rw [List.getD_eq_getElem?_getD, e]
  have : k % 5 = 0 ∨ k % 5 = 1 ∨ k % 5 = 2 ∨ k % 5 = 3 ∨ k % 5 = 4 := by omega
  rcases this with h | h | h | h | h <;> rw [h] <;> rfl
theorem wpList_append_ins {w : World} {ops : Array Oper} {rest : List Oper} {o : Oper} {a : Act} {Q : Exit → Act → World → Prop} (hgd : o.guard = none) (s x : Operand)
    (ho : o.op = .call { callee := .builtin .append, args := #[s, x], argTypes := #[29, 29] }) (base : Nat) (v : Value) (l l2 : List Ins) (hs : a.eval s = v) (hown : w.ownsRow base 41 5 v l.length (l.flatMap Ins.cells))
    (A : Option Addr) (c : Nat) (hx : a.eval x = .slice A l2.length c) (hr : Sl w A (l2.length * 5) (fun k => (l2.flatMap Ins.cells).getD k undef)) (hb : l.length + l2.length ≤ 1000000) (hbase : base ≤ w.heap.size)
    (h : ∀ A' c' w', w'.ownsRow base 41 5 (.slice A' (l ++ l2).length c') (l ++ l2).length ((l ++ l2).flatMap Ins.cells) → w.grownBy w' v.ownBlock → Below base w w' → wpList Tryd.prog ops Q rest (a.put o.dst (.slice A' (l ++ l2).length c')) w') : wpList Tryd.prog ops Q (o :: rest) a w := by
  obtain ⟨i0, hi, hy0, hy1, hy2⟩ := info_parts insB_info5
  refine wpList_append_sl w hgd s x 29 ho base 41 i0 _ 5 40 Tryd.underlying29 hi hy0 hy1 hy2 rfl (by omega) v l.length _ hs hown A l2.length c (fun k => (l2.flatMap Ins.cells).getD k undef) hx hr (ins_cells_one l2) (by unfold maxLen; omega) (by omega) hbase ?_
  intro v' w' h1 h2 _
  have hl2 : (l2.flatMap Ins.cells).length = l2.length * 5 := by
    clear hr hb hx h h1 h2
    induction l2 with
    | nil => rfl
    | cons y l2 ih => rw [List.flatMap_cons, List.length_append, ih]; show 5 + _ = _; rw [List.length_cons]; omega
  rw [range_getD _ _ hl2, ← List.flatMap_append] at h1
  have hw := below_of_grown hbase h2 fun g e => (own_in hown g e).1
  rw [show l.length + l2.length = (l ++ l2).length from by simp] at h1
  obtain ⟨A', c', rfl, _, _⟩ := own_cap h1
  exact h A' c' w' h1 h2 hw
theorem sle_ins {W : World} {g : Nat} {cs : Array Value} {l : List Ins} (hb : Blk W g 41 cs) (h : ∀ i, i < l.length → InsAt cs i (l.getD i default)) : SlE W (some ⟨g, 0, none⟩) l.length 5 (fun i => (l.getD i default).cells) := fun hpos =>
  ⟨g, 0, rfl, hb.lt, fun i hi j u hu => by rw [hb.cell, Nat.zero_add]; exact h i hi j u hu⟩
theorem sl_one (W : World) (x : Ins) : Sl (W.alloc (.cells x.cells.toArray 41)) (some ⟨W.heap.size, 0, none⟩) ([x].length * 5) (fun k => ([x].flatMap Ins.cells).getD k undef) :=
  sl_ins (cap := 0) (Blk.new _ _ _) fun i hi j u hu => by
    obtain rfl : i = 0 := by simp at hi; omega
    rw [Nat.zero_mul, Nat.zero_add]
    simpa using hu
theorem own_re {W : World} {b s n k m c : Nat} {e : TypeId} {A : Option Addr} {xs : List Value} (h : W.ownsRow b e s (.slice A n c) m xs) (hn : n = k) : W.ownsRow b e s (.slice A k c) m xs := hn ▸ h
end Go.Proofs.YtmhfpjnkjlhbpaaDoor
