/- Whole rows (structs of many cells) that are blocks of their own: stored whole, loaded whole, handed back. -/
import Derived.Test.YtjmnogpnjombgaaDoorMem
import Derived.Laws.Rows
import Derived.Deep.MidRow
import Derived.Deep.DeepCutAuto
import Derived.Deep.DeepMust
import Derived.Deep.RegionHeld3
namespace Go.Proofs.YtjmnogpnjombgaaDoor
open Go.ChangeShapes Go.WideShapes Go.ChangeAt Go.RowKit Go.Deep
set_option linter.unusedVariables false
set_option maxRecDepth 100000

theorem setCells_row (g : Nat) (t : TypeId) : ∀ (vs : List Value) (o : Nat) (w : World) (cs : Array Value), Blk w g t cs → o + vs.length ≤ cs.size →
    ∃ cs', Blk (w.setCells g o vs) g t cs' ∧ cs'.size = cs.size ∧ (∀ j, j < vs.length → cs'[o + j]? = vs[j]?) ∧ (∀ i, i < o ∨ o + vs.length ≤ i → cs'[i]? = cs[i]?) ∧ w.grownBy (w.setCells g o vs) (some g)
  | [], o, w, cs, hb, _ => ⟨cs, hb, rfl, fun j hj => absurd hj (by simp), fun _ _ => rfl, World.grownBy.refl w _⟩
  | v :: r, o, w, cs, hb, hs => by
    have hs' : o + 1 + r.length ≤ (cs.setIfInBounds o v).size := by simp at hs ⊢; omega
    obtain ⟨cs', h1, h2, h3, h4, h5⟩ := setCells_row g t r (o + 1) (w.setCell ⟨g, o, none⟩ v) (cs.setIfInBounds o v) (hb.set_ o v) hs'
    refine ⟨cs', h1, by simpa using h2, fun j hj => ?_, fun i hi => ?_, ?_⟩
    · rcases j with _ | j
      · rw [Nat.add_zero, h4 o (.inl (by omega)), Array.getElem?_setIfInBounds_self_of_lt (by simp at hs; omega)]
        rfl
      · have := h3 j (by simpa using hj)
        rw [show o + 1 + j = o + (j + 1) by omega] at this
        simpa using this
    · rw [h4 i (by simp at hi; omega), Array.getElem?_setIfInBounds_ne (by simp at hi; omega)]
    · refine ⟨h5.os, h5.tape, h5.output, ?_, fun i hi hne => ?_⟩
      · have := h5.size
        rw [show (w.setCell ⟨g, o, none⟩ v).heap.size = w.heap.size by simp [World.setCell]] at this
        exact this
      · refine (h5.block i (by simpa [World.setCell] using hi) hne).trans (Below.heap_setCell w ⟨g, o, none⟩ v i (fun e => hne (by rw [e])))

theorem setCells_whole {w : World} {g : Nat} {t : TypeId} {old cells : Array Value} (hb : Blk w g t old) (hs : old.size = cells.size) :
    Blk (w.setCells g 0 cells.toList) g t cells ∧ w.grownBy (w.setCells g 0 cells.toList) (some g) := by
  obtain ⟨cs', h1, h2, h3, h4, h5⟩ := setCells_row g t cells.toList 0 w old hb (by simp [hs])
  have : cs' = cells := by
    apply Array.ext_getElem?
    intro i
    by_cases hi : i < cells.size
    · have := h3 i (by simpa using hi)
      simpa using this
    · rw [Array.getElem?_eq_none (by omega), Array.getElem?_eq_none (by omega)]
  rw [this] at h1
  exact ⟨h1, h5⟩

theorem Blk.there {w : World} {g : Nat} {t : TypeId} {cs : Array Value} (h : Blk w g t cs) (o n : Nat) (hn : o + n ≤ cs.size) : w.there g o n := fun j hj =>
  ⟨by rw [h.cell, Array.getElem?_eq_getElem (by omega)]; rfl, h.frozen _⟩

theorem Blk.new2 (w : World) (A : Obj) (t : TypeId) (cs : Array Value) : Blk ((w.alloc A).alloc (.cells cs t)) (w.heap.size + 1) t cs := by
  have := Blk.new (w.alloc A) t cs
  rwa [show (w.alloc A).heap.size = w.heap.size + 1 by simp] at this

section
variable {P : Program}
/-- A row is stored whole into a block of its own. -/
theorem wpList_store_row {ops : Array Oper} {rest : List Oper} {op : Oper} {a : Act} {w : World} {Q : Exit → Act → World → Prop} (hgd : op.guard = none) (ty : TypeId) (x y : Operand) (ho : op.op = .store ty x y)
    (g : Nat) (hx : a.eval x = .pointer (some ⟨g, 0, none⟩)) (cells : Array Value) (hy : a.eval y = .agg cells) (t : TypeId) (old : Array Value) (hb : Blk w g t old) (hs : old.size = cells.size)
    (hi : (P.info? ty).map (·.size) = some cells.size) (h1 : cells.all (·.oneCell') = true)
    (h : ∀ w', Blk w' g t cells → w.grownBy w' (some g) → wpList P ops Q rest (a.put op.dst undef) w') : wpList P ops Q (op :: rest) a w :=
  wpList_store_mid hgd ty x y ho g 0 cells hx hy (hb.there 0 _ (by omega)) hi h1 (h _ (setCells_whole hb hs).1 (setCells_whole hb hs).2)

/-- The same load under a guard that holds. -/
theorem wpList_load_rowG {ops : Array Oper} {rest : List Oper} {o : Oper} {a : Act} {w : World} {Q : Exit → Act → World → Prop} (hgd : Region.wanted o (yielded ops a.tmps) = true) (ty : TypeId) (x : Operand) (ho : o.op = .load ty x)
    (g : Nat) (hx : a.eval x = .pointer (some ⟨g, 0, none⟩)) (t : TypeId) (cs : Array Value) (fr : Nat × Nat) (d : TypeDesc) (hg : w.heap[g]? = some (.cells cs t fr))
    (hu : P.underlying ty = some d) (hd : (match d with | .struct _ | .array _ _ => true | _ => false) = true) (hi : (P.info? ty).map (·.size) = some cs.size)
    (h : wpList P ops Q rest (a.put o.dst (.agg cs)) w) : wpList P ops Q (o :: rest) a w :=
  wpList_step fun _ hK => by
    rw [if_pos hgd]
    exact wp_load_row ty x ho g hx t cs fr d hg hu hd hi (hK _ _ h)

theorem run_row (w : World) (g : Nat) (t ty : TypeId) (cs : Array Value) (d : TypeDesc) (hb : Blk w g t cs)
    (hu : P.underlying ty = some d) (hd : (match d with | .struct _ | .array _ _ => true | _ => false) = true) (hi : (P.info? ty).map (·.size) = some cs.size) :
    (loadVar ty ⟨g, 0, none⟩).run P w = .ok (.agg cs) w := run_loadVar_row w g t ty cs (0, 0) d hb hu hd hi

/-- Results: a row, and a slot. -/
theorem results_row_tmp {fn : Func} {p q : Tmp} {ty : TypeId} (h : fn.results = #[.cell p ty, .tmp q]) (tmps : Array Value) (w : World) (g : Nat) (v : Value)
    (hp : tmps.getD p undef = .pointer (some ⟨g, 0, none⟩)) (hr : (loadVar ty ⟨g, 0, none⟩).run P w = .ok v w) :
    (results fn tmps).run P w = .ok (.tuple #[v, tmps.getD q undef]) w := by
  have hp' : tmps[p]?.getD undef = .pointer (some ⟨g, 0, none⟩) := by simpa using hp
  simp [results, h, hp', asAddr, hr]
theorem results_row_row_tmp {fn : Func} {p p' q : Tmp} {ty ty' : TypeId} (h : fn.results = #[.cell p ty, .cell p' ty', .tmp q]) (tmps : Array Value) (w : World) (g g' : Nat) (v v' : Value)
    (hp : tmps.getD p undef = .pointer (some ⟨g, 0, none⟩)) (hr : (loadVar ty ⟨g, 0, none⟩).run P w = .ok v w)
    (hp2 : tmps.getD p' undef = .pointer (some ⟨g', 0, none⟩)) (hr2 : (loadVar ty' ⟨g', 0, none⟩).run P w = .ok v' w) :
    (results fn tmps).run P w = .ok (.tuple #[v, v', tmps.getD q undef]) w := by
  have hp' : tmps[p]?.getD undef = .pointer (some ⟨g, 0, none⟩) := by simpa using hp
  have hp2' : tmps[p']?.getD undef = .pointer (some ⟨g', 0, none⟩) := by simpa using hp2
  simp [results, h, hp', hp2', asAddr, hr, hr2]
theorem results_tmp_row {fn : Func} {p q : Tmp} {ty : TypeId} (h : fn.results = #[.tmp q, .cell p ty]) (tmps : Array Value) (w : World) (g : Nat) (v : Value)
    (hp : tmps.getD p undef = .pointer (some ⟨g, 0, none⟩)) (hr : (loadVar ty ⟨g, 0, none⟩).run P w = .ok v w) :
    (results fn tmps).run P w = .ok (.tuple #[tmps.getD q undef, v]) w := by
  have hp' : tmps[p]?.getD undef = .pointer (some ⟨g, 0, none⟩) := by simpa using hp
  simp [results, h, hp', asAddr, hr]
end
section
variable {P : Program} {ops : Array Oper} {S : World → Prop}
/-- In a region that draws: a row that S knows is loaded: it may be taken first. -/
theorem yields_row {op : Oper} {a : Act} (hw : Region.wanted op (yielded ops a.tmps) = true) (ty : TypeId) (x : Operand) (ho : op.op = .load ty x)
    (g : Nat) (hx : a.eval x = .pointer (some ⟨g, 0, none⟩)) (cs : Array Value) (hS : ∀ w, S w → (loadVar ty ⟨g, 0, none⟩).run P w = .ok (.agg cs) w) : YieldsIf P ops S op (.agg cs) a :=
  .inl ⟨hw, fun w hw' => by
    unfold execOp
    simp only [ho, hx, Instr.loadAt, Instr.sureAddr, Sem.run_bind, Sem.run_pure, Result.andThen_ok, hS w hw']⟩
end

/-! ### A region that draws its order and whose last operation m may break what the others lean on -/
section
variable {P : Program} {md : Region.Mode} {ops : Array Oper} {Q : Exit → Act → World → Prop} {S : World → Prop} {m : Nat}
/-- Whatever order is picked, and S holds behind every operation that comes up ahead of m. -/
def wpAnyG (P : Program) (md : Region.Mode) (ops : Array Oper) (Q : Exit → Act → World → Prop) (S : World → Prop) (m : Nat) : Nat → Array Bool → Act → World → Prop
  | 0, L, a, w => Region.ready md ops L = [] ∧ Q .normal a w
  | f + 1, L, a, w => (Region.ready md ops L = [] → Q .normal a w) ∧
    ∀ i ∈ Region.ready md ops L, wpOp P ops Q i (fun a' w' => (i ≠ m → L.getD m false = false → S w') ∧ wpAnyG P md ops Q S m f (L.setIfInBounds i true) a' w') a w

theorem wpAny_of_G : ∀ (f : Nat) (L : Array Bool) (a : Act) (w : World), wpAnyG P md ops Q S m f L a w → wpAny P md ops Q f L a w
  | 0, _, _, _, h => h
  | f + 1, _, _, _, h => ⟨h.1, fun i hi => wpOp_mono (fun a' w' h' => wpAny_of_G f _ a' w' h'.2) (h.2 i hi)⟩

/-- Does m wait for i, itself or over one that it waits for? -/
def lastWaits (md : Region.Mode) (ops : Array Oper) (m i : Nat) : Bool :=
  match ops[m]? with
  | none => false
  | some o => o.after.any fun e => Region.binds md e && (e.on == i || match ops[e.on]? with
    | none => false
    | some o' => o'.after.any fun e' => Region.binds md e' && e'.on == i)
/-- What has come up has all that it waits for behind it. -/
def Closed (md : Region.Mode) (ops : Array Oper) (L : Array Bool) : Prop :=
  ∀ k o, ops[k]? = some o → L.getD k false = true → ∀ e ∈ o.after, Region.binds md e = true → L.getD e.on false = true
def closedB (md : Region.Mode) (ops : Array Oper) (L : Array Bool) : Bool :=
  (List.range ops.size).all fun k => !L.getD k false || match ops[k]? with
    | none => true
    | some o => o.after.all fun e => !Region.binds md e || L.getD e.on false
theorem closedB_spec {L : Array Bool} (h : closedB md ops L = true) : Closed md ops L := by
  intro k o ho hk e he hb
  have h1 := List.all_eq_true.1 h k (List.mem_range.2 (Array.getElem?_eq_some_iff.1 ho).1)
  rw [ho, hk] at h1
  have h2 := Array.all_eq_true_iff_forall_mem.1 (show o.after.all (fun e => !Region.binds md e || L.getD e.on false) = true by simpa using h1) e he
  rw [hb] at h2
  simpa using h2
theorem Closed.set {L : Array Bool} {j : Nat} (h : Closed md ops L) (hj : j ∈ Region.ready md ops L) : Closed md ops (L.setIfInBounds j true) := by
  intro k o ho hk e he hb
  refine getD_set_true ?_
  by_cases hkj : k = j
  · subst hkj
    obtain ⟨_, o', ho', hall⟩ := mem_ready.1 hj
    rw [ho] at ho'
    obtain rfl := Option.some.inj ho'
    exact hall e he hb
  · rw [getD_set_ne false (Ne.symm hkj)] at hk
    exact h k o ho hk e he hb
theorem lastWaits_listed {i : Nat} {L : Array Bool} (h : lastWaits md ops m i = true) (hc : Closed md ops L) (hm : L.getD m false = true) : L.getD i false = true := by
  unfold lastWaits at h
  cases ho : ops[m]? with
  | none => rw [ho] at h; cases h
  | some o =>
    rw [ho] at h
    obtain ⟨e, he, hb⟩ := Array.any_eq_true'.1 (show o.after.any (fun e => Region.binds md e && (e.on == i || match ops[e.on]? with
      | none => false
      | some o' => o'.after.any fun e' => Region.binds md e' && e'.on == i)) = true from h)
    simp only [Bool.and_eq_true, Bool.or_eq_true, beq_iff_eq] at hb
    obtain ⟨hb1, hb2⟩ := hb
    have h1 := hc m o ho hm e he hb1
    rcases hb2 with hb2 | hb2
    · rwa [hb2] at h1
    · cases ho' : ops[e.on]? with
      | none => rw [ho'] at hb2; cases hb2
      | some o' =>
        rw [ho'] at hb2
        obtain ⟨e', he', hb'⟩ := Array.any_eq_true'.1 (show o'.after.any (fun e' => Region.binds md e' && e'.on == i) = true from hb2)
        simp only [Bool.and_eq_true, beq_iff_eq] at hb'
        have := hc e.on o' ho' h1 e' he' hb'.1
        rwa [hb'.2] at this
theorem lastWaits_spec {i : Nat} {L : Array Bool} (h : lastWaits md ops m i = true) (hc : Closed md ops L) (hm : m ∈ Region.ready md ops L) (hne : i ≠ m) : L.getD i false = true := by
  have h1 := hc.set hm
  have h2 : (L.setIfInBounds m true).getD m false = true := by
    have := (mem_ready.1 hm).1
    rcases Nat.lt_or_ge m L.size with h' | h'
    · simp [h']
    · simp [Array.getElem?_eq_none h'] at this
  have := lastWaits_listed h h1 h2
  rwa [getD_set_ne false (Ne.symm hne)] at this

theorem unlisted_both {L : Array Bool} {i : Nat} (h : L.getD i true = false) : L.getD i false = false := by
  rcases Nat.lt_or_ge i L.size with h' | h'
  · simpa [h'] using h
  · simp [Array.getElem?_eq_none h'] at h

theorem unlisted_true {L : Array Bool} {i : Nat} (h : L.getD i true = false) : (L.setIfInBounds i true).getD i false = true := by
  rcases Nat.lt_or_ge i L.size with h' | h'
  · simp [h']
  · simp [Array.getElem?_eq_none h'] at h

theorem wpAnyG_first {T : World → Prop} {i : Nat} {oi : Oper} {v : Value} (hi : ops[i]? = some oi) (hsel : ∀ (j : Nat) (o : Oper) cs b, ops[j]? = some o → o.op ≠ .select cs b)
    (hQ : ∀ c a w, Q (.panic c) (a.put oi.dst v) w → Q (.panic c) a w) (hne : i ≠ m) (hT : (∀ w, T w) ∨ (lastWaits md ops m i = true ∧ ∀ w, S w → T w)) :
    ∀ (f : Nat) (L : Array Bool) (a : Act) (w : World),
      (∀ j oj, ops[j]? = some oj → j ≠ i → L.getD j true = false → (∀ e ∈ oj.after, Region.binds md e = true → e.on ≠ i) → oi.apart ops oj = true) →
      Closed md ops L → i ∈ Region.ready md ops L → YieldsIf P ops T oi v a → (L.getD m false = false → S w) →
      wpAnyG P md ops Q S m f (L.setIfInBounds i true) (a.put oi.dst v) w → wpAnyG P md ops Q S m (f + 1) L a w
  | 0, L, a, w, _, hcl, hr, hy, hS, H => by
    have hun := unlisted_both (mem_ready.1 hr).1
    have hTw : T w := by
      rcases hT with hT | ⟨hl, hT⟩
      · exact hT w
      · refine hT w (hS ?_)
        cases hq : L.getD m false
        · rfl
        · rw [lastWaits_listed hl hcl hq] at hun; cases hun
    refine ⟨fun h => (by rw [h] at hr; cases hr), fun j hj => ?_⟩
    by_cases hji : j = i
    · rw [hji]; exact hy.wpOp hi hTw ⟨fun _ h => hS h, H⟩
    · have := ready_mono hj hji
      rw [H.1] at this
      cases this
  | f + 1, L, a, w, hfree, hcl, hr, hy, hS, H => by
    have hun := unlisted_both (mem_ready.1 hr).1
    have hTw : T w := by
      rcases hT with hT | ⟨hl, hT⟩
      · exact hT w
      · refine hT w (hS ?_)
        cases hq : L.getD m false
        · rfl
        · rw [lastWaits_listed hl hcl hq] at hun; cases hun
    refine ⟨fun h => (by rw [h] at hr; cases hr), fun j hj => ?_⟩
    by_cases hji : j = i
    · rw [hji]; exact hy.wpOp hi hTw ⟨fun _ h => hS h, H⟩
    · obtain ⟨hjun, oj, hoj, hall⟩ := mem_ready.1 hj
      have hnot : ∀ e ∈ oj.after, Region.binds md e = true → e.on ≠ i := fun e he hb heq => by
        have := hall e he hb
        rw [heq, hun] at this
        cases this
      have h2 := wpOp_putIf hoj (hfree j oj hoj hji hjun hnot) (fun cs b => hsel i oi cs b hi) (fun cs b => hsel j oj cs b hoj) hQ hy (H.2 j (ready_mono hj hji))
      refine wpOp_mono (fun a' w' h3 => ?_) h2
      obtain ⟨h31, h32, h33⟩ := h3
      have hSw : j ≠ m → L.getD m false = false → S w' := fun h1 h4 => h32 h1 (by rw [getD_set_ne false hne]; exact h4)
      refine ⟨hSw, wpAnyG_first hi hsel hQ hne hT f (L.setIfInBounds j true) a' w' (fun k ok hk hki hu hno => hfree k ok hk hki ?_ hno) (hcl.set hj) (ready_mono hr (Ne.symm hji)) h31 (fun hm => ?_) ?_⟩
      · by_cases hjk : j = k
        · rw [← hjk]; exact hjun
        · rwa [getD_set_ne true hjk] at hu
      · by_cases hjm : j = m
        · subst hjm
          rw [unlisted_true hjun] at hm
          cases hm
        · rw [getD_set_ne false hjm] at hm
          exact hSw hjm hm
      · rw [Array.setIfInBounds_comm _ _ hji]
        exact h33

/-- Take number i first. -/
theorem takeG {i : Nat} {oi : Oper} {v : Value} {f : Nat} {L : Array Bool} {a : Act} {w : World} (hi : ops[i]? = some oi)
    (hs : Region.noSelect ops = true) (hf : Region.free md ops L i = true) (hr : (Region.ready md ops L).contains i = true) (hl : (lastWaits md ops m i && closedB md ops L && decide (i ≠ m)) = true)
    (hQ : ∀ c a w, Q (.panic c) (a.put oi.dst v) w → Q (.panic c) a w) (hy : YieldsIf P ops S oi v a) (hS : S w)
    (h : wpAnyG P md ops Q S m f (L.setIfInBounds i true) (a.put oi.dst v) w) : wpAnyG P md ops Q S m (f + 1) L a w := by
  simp only [Bool.and_eq_true, decide_eq_true_eq] at hl
  exact wpAnyG_first hi (Region.noSelect_spec hs) hQ hl.2 (.inr ⟨hl.1.1, fun _ h => h⟩) f L a w (Region.free_spec hi hf) (closedB_spec hl.1.2) (by simpa using hr) hy (fun _ => hS) h
/-- Take number i first, which yields in whatever world: m need not wait for it. -/
theorem takeG0 {i : Nat} {oi : Oper} {v : Value} {f : Nat} {L : Array Bool} {a : Act} {w : World} (hi : ops[i]? = some oi)
    (hs : Region.noSelect ops = true) (hf : Region.free md ops L i = true) (hr : (Region.ready md ops L).contains i = true) (hl : (closedB md ops L && decide (i ≠ m)) = true)
    (hQ : ∀ c a w, Q (.panic c) (a.put oi.dst v) w → Q (.panic c) a w) (hy : YieldsIf P ops (fun _ => True) oi v a) (hS : S w)
    (h : wpAnyG P md ops Q S m f (L.setIfInBounds i true) (a.put oi.dst v) w) : wpAnyG P md ops Q S m (f + 1) L a w := by
  simp only [Bool.and_eq_true, decide_eq_true_eq] at hl
  exact wpAnyG_first hi (Region.noSelect_spec hs) hQ hl.2 (.inl fun _ => trivial) f L a w (Region.free_spec hi hf) (closedB_spec hl.1) (by simpa using hr) hy (fun _ => hS) h

/-- One operation alone may come up, and it is not m. -/
theorem onlyG {i : Nat} {o : Oper} {f : Nat} {L : Array Bool} {a : Act} {w : World} (hr : Region.ready md ops L = [i]) (ho : ops[i]? = some o)
    (h : ∀ K' : Act → World → Prop, Go.Shut (∀ a w, S w → (S w → wpAnyG P md ops Q S m f (L.setIfInBounds i true) a w) → K' a w) → if Region.wanted o (yielded ops a.tmps) = true then Oper.wp P o a w K' Q else K' (a.put o.dst undef) w) :
    wpAnyG P md ops Q S m (f + 1) L a w :=
  ⟨fun h0 => (by rw [hr] at h0; cases h0), fun j hj => by
    rw [hr] at hj
    obtain rfl : j = i := by simpa using hj
    exact wpOp_step ho (fun K' hK => h K' (fun a w hS hW => hK a w ⟨fun _ _ => hS, hW hS⟩))⟩

/-- Each of the operations rs comes up next. -/
def AllG (P : Program) (md : Region.Mode) (ops : Array Oper) (Q : Exit → Act → World → Prop) (S : World → Prop) (m f : Nat) (L : Array Bool) (a : Act) (w : World) (rs : List Nat) : Prop :=
  ∀ i ∈ rs, wpOp P ops Q i (fun a' w' => (i ≠ m → L.getD m false = false → S w') ∧ wpAnyG P md ops Q S m f (L.setIfInBounds i true) a' w') a w
theorem AllG.nil {f : Nat} {L : Array Bool} {a : Act} {w : World} : AllG P md ops Q S m f L a w [] := fun _ h => by cases h
theorem AllG.cons {f : Nat} {L : Array Bool} {a : Act} {w : World} {i : Nat} {o : Oper} {rs : List Nat} (ho : ops[i]? = some o)
    (h : ∀ K' : Act → World → Prop, Go.Shut (∀ a w, S w → (S w → wpAnyG P md ops Q S m f (L.setIfInBounds i true) a w) → K' a w) → if Region.wanted o (yielded ops a.tmps) = true then Oper.wp P o a w K' Q else K' (a.put o.dst undef) w)
    (hs : AllG P md ops Q S m f L a w rs) : AllG P md ops Q S m f L a w (i :: rs) := fun j hj => by
  rcases List.mem_cons.1 hj with rfl | hj
  · exact wpOp_step ho (fun K' hK => h K' (fun a w hS hW => hK a w ⟨fun _ _ => hS, hW hS⟩))
  · exact hs j hj
theorem manyG {rs : List Nat} {f : Nat} {L : Array Bool} {a : Act} {w : World} (hr : Region.ready md ops L = rs) (hne : rs ≠ [])
    (h : AllG P md ops Q S m f L a w rs) : wpAnyG P md ops Q S m (f + 1) L a w :=
  ⟨fun h0 => absurd (hr ▸ h0) hne, hr ▸ h⟩

/-- The last operation. -/
theorem lastG {o : Oper} {f : Nat} {L : Array Bool} {a : Act} {w : World} (hr : Region.ready md ops L = [m]) (ho : ops[m]? = some o) (hd : Region.ready md ops (L.setIfInBounds m true) = [])
    (h : ∀ K' : Act → World → Prop, Go.Shut (∀ a w, Q .normal a w → K' a w) → if Region.wanted o (yielded ops a.tmps) = true then Oper.wp P o a w K' Q else K' (a.put o.dst undef) w) :
    wpAnyG P md ops Q S m (f + 1) L a w :=
  ⟨fun h0 => (by rw [hr] at h0; cases h0), fun j hj => by
    rw [hr] at hj
    obtain rfl : j = m := by simpa using hj
    refine wpOp_step ho (fun K' hK => h K' (fun a w hq => hK a w ⟨fun e _ => absurd rfl e, ?_⟩))
    cases f with
    | zero => exact ⟨hd, hq⟩
    | succ f => exact ⟨fun _ => hq, by rw [hd]; simp⟩⟩

theorem startG {id : Nat} {a : Act} {w : World} (S : World → Prop) (m : Nat) (hm : P.follows .mixedOrders = true)
    (h : wpAnyG P .any ops Q S m ops.size (Array.replicate ops.size false) a w.drew) : (Code.region id ops true).wp P Q a w :=
  wp_region_any hm (wpAny_of_G _ _ _ _ h)
end

section
variable {P : Program} {ops : Array Oper}
/-- In a region that draws: a row is stored whole. -/
theorem step_store_row {op : Oper} {a : Act} {w : World} {K : Act → World → Prop} {Q : Exit → Act → World → Prop} {E : Prop} (hgd : op.guard = none) (ty : TypeId) (x y : Operand) (ho : op.op = .store ty x y)
    (g : Nat) (hx : a.eval x = .pointer (some ⟨g, 0, none⟩)) (cells : Array Value) (hy : a.eval y = .agg cells) (t : TypeId) (old : Array Value) (hb : Blk w g t old) (hs : old.size = cells.size)
    (hi : (P.info? ty).map (·.size) = some cells.size) (h1 : cells.all (·.oneCell') = true)
    (h : ∀ w', Blk w' g t cells → w.grownBy w' (some g) → K (a.put op.dst undef) w') : if Region.wanted op (yielded ops a.tmps) = true then Oper.wp P op a w K Q else E := by
  have hw : Region.wanted op (yielded ops a.tmps) = true := by simp [Region.wanted, hgd]
  rw [if_pos hw]
  exact wp_store_mid ty x y ho g 0 cells hx hy (hb.there 0 _ (by omega)) hi h1 (h _ (setCells_whole hb hs).1 (setCells_whole hb hs).2)
end
/-- What grew at one block that is new leaves old memory. -/
theorem below_row {w W W' : World} {B g : Nat} (h : Below B w W) (hg : W.grownBy W' (some g)) (hB : B ≤ W.heap.size) (hr : B ≤ g) : Below B w W' :=
  h.grown hg hB (fun k e => by injection e with e; omega)
end Go.Proofs.YtjmnogpnjombgaaDoor
