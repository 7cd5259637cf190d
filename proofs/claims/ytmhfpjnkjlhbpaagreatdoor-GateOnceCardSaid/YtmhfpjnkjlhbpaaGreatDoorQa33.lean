/- The state in which a machine with buffers begins is right. A thread alone: what serves its laws (printed by gen/alone.py out of XSeqR, XSeqA). A machine with buffers (plain): the numbers that its events tell are words; how many events there are. -/
import Derived.Test.YtmhfpjnkjlhbpaaGreatDoorQa27
import Derived.Test.YtmhfpjnkjlhbpaaGreatDoorQa22
import Derived.Laws.OwnMore
import Derived.Test.YtmhfpjnkjlhbpaaGreatDoorQa31
import Derived.Test.YtmhfpjnkjlhbpaaGreatDoorQa29
namespace Go.Proofs.YtmhfpjnkjlhbpaaGreatDoor
open Go.ChangeShapes Go.WideShapes Go.ChangeAt Go.RowKit Go.Deep
set_option linter.unusedVariables false
set_option maxRecDepth 100000
set_option linter.unusedSimpArgs false

theorem t0_ok {p : Pg} {B : MB} (ho : p.Ok) (h : NewM p B) : TOk B (t0 p) where
  ok := ⟨by show (List.replicate p.n tha).length = _; rw [List.length_replicate, h.n], fun t ht => by rw [(List.mem_replicate.1 ht).2]; exact tha_regs, fun z hz => by
    obtain ⟨i, hi, rfl⟩ := List.mem_map.1 hz
    exact ho.z0 i (List.mem_range.1 hi), fun b hb e he => (by rw [(List.mem_replicate.1 hb).2] at he; cases he), ⟨List.nodup_nil, fun x hx => by cases hx⟩⟩
  bl := by show (List.replicate p.n _).length = _; rw [List.length_replicate, h.n]
theorem tot_nil (n : Nat) : tot (List.replicate n []) = 0 := by
  induction n with
  | zero => rfl
  | succ n ih => rw [List.replicate_succ]; simp [tot] at ih ⊢
end Go.Proofs.YtmhfpjnkjlhbpaaGreatDoor
namespace Go.Proofs.YtmhfpjnkjlhbpaaGreatDoor
open Go.ChangeShapes Go.WideShapes Go.ChangeAt Go.RowKit Go.Deep
set_option linter.unusedVariables false
set_option maxRecDepth 100000
set_option linter.unusedSimpArgs false

def outsP (l : List Evt) : List Int := (l.filter fun x => x.who == 0 && x.kind == 6).map fun x => x.value
def aB (l : List Ins) (room : Int) (m : Nat) : MB := ⟨0, [⟨none, l.length, 0, fun i => l.getD i default⟩], room, m⟩
def aS (m : Nat) : Mst := ⟨[tha], [[]], List.replicate m 0, [], [], 0⟩
def okB (x : Ins) : Bool := decide (0 ≤ x.op ∧ x.op ≤ 100 ∧ 0 ≤ x.a ∧ x.a ≤ 100 ∧ 0 ≤ x.b ∧ x.b ≤ 100 ∧ 0 ≤ x.c ∧ x.c ≤ 100 ∧ 0 ≤ x.k ∧ x.k ≤ 4294967295)
theorem sl_ins {W : World} {g cap : Nat} {cs : Array Value} {l : List Ins} (hb : Blk W g 75 cs) (h : ∀ i, i < l.length → InsAt cs i (l.getD i default)) : Sl W (some ⟨g, 0, none⟩) (l.length * 5) (fun k => (l.flatMap Ins.cells).getD k undef) := fun hpos => by
  refine ⟨g, 0, rfl, hb.lt, fun k hk => ?_⟩
  have hi : k / 5 < l.length := by omega
  have hj : k % 5 < 5 := by omega
  have e := flat_get Ins.cells 5 (fun _ => rfl) default l (k / 5) hi (k % 5) hj
  rw [show k / 5 * 5 + k % 5 = k by omega] at e
  have hlt : k % 5 < ((l.getD (k / 5) default).cells).length := hj
  rw [List.getElem?_eq_getElem hlt] at e
  have := h (k / 5) hi (k % 5) _ (List.getElem?_eq_getElem hlt)
  rw [show k / 5 * 5 + k % 5 = k by omega] at this
  rw [Nat.zero_add, hb.cell, this]
  have e2 : (l.flatMap Ins.cells).getD k undef = ((l.getD (k / 5) default).cells)[k % 5] := by rw [List.getD_eq_getElem?_getD, e]; rfl
  exact congrArg some e2.symm
theorem ins_cells_one (l : List Ins) : ∀ k, k < l.length * 5 → ((l.flatMap Ins.cells).getD k undef).oneCell' = true := fun k hk => by
  have hj : k % 5 < 5 := by omega
  have e := flat_get Ins.cells 5 (fun _ => rfl) default l (k / 5) (by omega) (k % 5) hj
  rw [show k / 5 * 5 + k % 5 = k by omega] at e
  rw [List.getD_eq_getElem?_getD, e]
  have : k % 5 = 0 ∨ k % 5 = 1 ∨ k % 5 = 2 ∨ k % 5 = 3 ∨ k % 5 = 4 := by omega
  rcases this with h | h | h | h | h <;> rw [h] <;> rfl
theorem wpList_append_ins {w : World} {ops : Array Oper} {rest : List Oper} {o : Oper} {a : Act} {Q : Exit → Act → World → Prop} (hgd : o.guard = none) (s x : Operand)
    (ho : o.op = .call { callee := .builtin .append, args := #[s, x], argTypes := #[50, 50] }) (base : Nat) (v : Value) (l l2 : List Ins) (hs : a.eval s = v) (hown : w.ownsRow base 75 5 v l.length (l.flatMap Ins.cells))
    (A : Option Addr) (c : Nat) (hx : a.eval x = .slice A l2.length c) (hr : Sl w A (l2.length * 5) (fun k => (l2.flatMap Ins.cells).getD k undef)) (hb : l.length + l2.length ≤ 1000000) (hbase : base ≤ w.heap.size)
    (h : ∀ A' c' w', w'.ownsRow base 75 5 (.slice A' (l ++ l2).length c') (l ++ l2).length ((l ++ l2).flatMap Ins.cells) → w.grownBy w' v.ownBlock → Below base w w' → wpList Tryz.prog ops Q rest (a.put o.dst (.slice A' (l ++ l2).length c')) w') : wpList Tryz.prog ops Q (o :: rest) a w := by
  obtain ⟨i0, hi, hy0, hy1, hy2⟩ := info_parts insB_info5
  refine wpList_append_sl w hgd s x 50 ho base 75 i0 _ 5 40 Tryz.underlying50 hi hy0 hy1 hy2 rfl (by omega) v l.length _ hs hown A l2.length c (fun k => (l2.flatMap Ins.cells).getD k undef) hx hr (ins_cells_one l2) (by unfold maxLen; omega) (by omega) hbase ?_
  intro v' w' h1 h2 _
  have hl2 : (l2.flatMap Ins.cells).length = l2.length * 5 := by
    clear hr hb hx h h1 h2
    induction l2 with
    | nil => rfl
    | cons y l2 ih => rw [List.flatMap_cons, List.length_append, ih]; show 5 + _ = _; rw [List.length_cons]; omega
  rw [range_getD _ _ hl2, ← List.flatMap_append] at h1
  have hw := below_of_grown hbase h2 fun g e => (own_in hown g e).1
  rw [show l.length + l2.length = (l ++ l2).length from by simp] at h1
  obtain ⟨A', c', rfl, _, _⟩ := own_cap h1
  exact h A' c' w' h1 h2 hw
theorem sle_ins {W : World} {g : Nat} {cs : Array Value} {l : List Ins} (hb : Blk W g 75 cs) (h : ∀ i, i < l.length → InsAt cs i (l.getD i default)) : SlE W (some ⟨g, 0, none⟩) l.length 5 (fun i => (l.getD i default).cells) := fun hpos =>
  ⟨g, 0, rfl, hb.lt, fun i hi j u hu => by rw [hb.cell, Nat.zero_add]; exact h i hi j u hu⟩
theorem sl_one (W : World) (x : Ins) : Sl (W.alloc (.cells x.cells.toArray 75)) (some ⟨W.heap.size, 0, none⟩) ([x].length * 5) (fun k => ([x].flatMap Ins.cells).getD k undef) :=
  sl_ins (cap := 0) (Blk.new _ _ _) fun i hi j u hu => by
    obtain rfl : i = 0 := by simp at hi; omega
    rw [Nat.zero_mul, Nat.zero_add]
    simpa using hu
theorem words_infoA : (Tryz.prog.info? 42).map (fun i => (i.zero, i.size, i.bytes)) = some (some (.int .u32 0), 1, 4) := by kernel_rfl
theorem makeW (m : Nat) (hm : m ≤ 1000) (w : World) : (Instr.makeSlice 27 (.int .i64 (m : Int)) (.int .i64 (m : Int))).run Tryz.prog w = .ok (.slice (some ⟨w.heap.size, 0, none⟩) m m) (w.alloc (.cells (List.replicate m (Value.int .u32 0)).toArray 42)) := by
  obtain ⟨i, hi, hz, hs, hb⟩ := info_parts words_infoA
  have hr := run_make (P := Tryz.prog) w 27 42 i _ Tryz.underlying27 hi hz .i64 .i64 m m (by omega) (by omega) (by rw [hb]; omega) (by omega)
  rw [hs] at hr
  simp only [Int.toNat_natCast, Nat.mul_one] at hr
  have e : madeCells (Value.int .u32 0).cells m = (List.replicate m (Value.int .u32 0)).toArray := by
    exact Array.ext' (toList_madeCells_one _ _)
  rw [e] at hr
  exact hr
def aPg (a b : Nat) (A : Option Addr) (c : Nat) (l : List Ins) (room : Int) (m : Nat) : Pg := ⟨some ⟨a, 0, none⟩, 1, 1, fun _ => ⟨A, l.length, c, fun i => l.getD i default⟩, some ⟨b, 0, none⟩, m, m, fun _ => 0, room⟩
def toEv (x : Evt) : Ev := ⟨x.kind, x.who, x.pc, x.addr, x.value, x.old, x.k, x.ok⟩
def ev0 : Evt := ⟨0, 0, 0, 0, 0, 0, 0, false⟩
def cAdd (C : Nat → List Ins) (l : List Ins) (call : Nat) : List Ins := l ++ (C call).map (movedI (l.length : Int)) ++ [⟨22, 7, 0, 0, 0⟩]
def cTo (C : Nat → List Ins) (cs : List Nat) (k : Nat) : List Ins := (cs.take k).foldl (cAdd C) []
def cAll (C : Nat → List Ins) (cs : List Nat) : List Ins := cs.foldl (cAdd C) []
def CGood (C : Nat → List Ins) (cs : List Nat) : Prop := ∀ c ∈ cs, ((C c).all okB && decide ((C c).length ≤ 60)) = true
end Go.Proofs.YtmhfpjnkjlhbpaaGreatDoor
namespace Go.Proofs.YtmhfpjnkjlhbpaaGreatDoor
open Go.ChangeShapes Go.WideShapes Go.ChangeAt Go.RowKit Go.Deep
set_option linter.unusedVariables false
set_option maxRecDepth 100000
set_option linter.unusedSimpArgs false

def EvK (l : List Evt) : Prop := ∀ x ∈ l, 0 ≤ x.k ∧ x.k ≤ 4294967295
theorem EvK.snoc {l : List Evt} (h : EvK l) {x : Evt} (hx : 0 ≤ x.k ∧ x.k ≤ 4294967295) : EvK (l ++ [x]) := fun y hy => by
  rcases List.mem_append.1 hy with hy | hy
  · exact h y hy
  · rw [List.mem_singleton.1 hy]; exact hx
section
variable {B : MB}
theorem insR_evk (t : Nat) (s : Mst) (th : Th) (i : Ins) (hk : 0 ≤ i.k ∧ i.k ≤ 4294967295) (h : EvK s.evs) : EvK (insR (tOps B t) s th i).2.evs := by
  have z : (0 : Int) ≤ 0 ∧ (0 : Int) ≤ 4294967295 := by decide
  have hf : ∀ (t : Nat) (s : Mst), EvK s.evs → EvK (tflush t s).evs := fun t s h => by
    unfold tflush
    split
    · exact h
    · exact h.snoc z
  have hfn : ∀ (t n : Nat) (s : Mst), EvK s.evs → EvK (tflushN t n s).evs := fun t n => by
    induction n with
    | zero => exact fun _ h => h
    | succ n ih => exact fun s h => ih _ (hf t s h)
  have hrem : ∀ (s : Mst), EvK s.evs → EvK (tremote s).evs := fun s h => by
    unfold tremote
    generalize List.range s.bufs.length = l
    induction l generalizing s with
    | nil => exact h
    | cons a l ih => exact ih _ (hfn a _ _ h)
  have hn : ∀ (s : Mst) (x : Evt), EvK s.evs → (0 ≤ x.k ∧ x.k ≤ 4294967295) → EvK (noteM (t : Int) s x).evs := fun s x h hx => h.snoc hx
  have hlock : ∀ (s : Mst) (pc : Int) (m : Nat) (old v : Int) (ok : Bool), EvK s.evs → EvK (lockS (tOps B t) s pc m old v ok).evs := fun s pc m old v ok h => by
    unfold lockS
    cases ok
    · exact hn _ _ h z
    · exact hn _ _ (show EvK ({ s with mem := s.mem.set m v } : Mst).evs from h) z
  have hst : ∀ (a : Nat) (v : Int), EvK ((tOps B t).store s a v).evs := fun a v => by
    show EvK (if a < B.m then ({ s with bufs := _ } : Mst) else s).evs
    split <;> exact h
  have hsl : ∀ (s : Mst) (a : Nat), EvK s.evs → EvK ((tOps B t).sleep s a).evs := fun s a h => by
    show EvK (sleepM (t : Int) s a).evs
    unfold sleepM
    split <;> exact h
  unfold insR
  split
  · exact hf _ _ h
  split
  · exact hf _ _ h
  split
  · exact hn _ _ h z
  split
  · exact h
  split
  · show EvK (asksR (tOps B t) s th _ _ _ _).2.evs
    unfold asksR
    split
    · exact hn _ _ h z
    split
    · exact hn _ _ (hst _ _) z
    split
    · exact hlock _ _ _ _ _ _ h
    split
    · exact hlock _ _ _ _ _ _ h
    split
    · exact hlock _ _ _ _ _ _ h
    split
    · unfold waitR
      split
      · exact hsl _ _ (hn _ _ h z)
      · exact hn _ _ h z
    · exact hn _ _ h z
  · show EvK (plainR (tOps B t) s th _ _ _ _ _ _).2.evs
    unfold plainR
    repeat' split
    all_goals first
      | exact h
      | exact hn _ _ h z
      | exact hn _ _ h hk
      | exact hn _ _ (hrem _ h) z
theorem tPick_evk {s : Mst} (hB : MBok B) (hs : TOk B s) (h : EvK s.evs) (x : Int × Int) : EvK (tPick B s x).evs := by
  have z : (0 : Int) ≤ 0 ∧ (0 : Int) ≤ 4294967295 := by decide
  unfold tPick
  split
  · exact h
  rename_i hin
  split
  · show EvK (stepR (tOps B x.2.toNat) s _ _).2.evs
    have ht : x.2.toNat < B.codes.length := by
      have := hs.ok.nt
      omega
    have hc : B.codes.getD x.2.toNat cdd ∈ B.codes := getD_mem ht
    unfold stepR
    split
    · exact h
    split
    · exact h.snoc z
    split
    · exact h.snoc z
    split
    · exact h.snoc z
    · rename_i h1 h2 h3 h4
      have := ((hB.cods _ hc).ins (s.ths.getD x.2.toNat tha).pc.toNat (by omega))
      exact insR_evk _ _ _ _ ⟨this.k0, this.k1⟩ h
  split
  · unfold tflush
    split
    · exact h
    · exact h.snoc z
  split
  · unfold rouseM
    split
    · exact h.snoc z
    · exact h
  · exact h
theorem tRun_evk (hB : MBok B) : ∀ (l : List (Int × Int)) {s : Mst}, TOk B s → EvK s.evs → EvK (tRun B s l).evs
  | [], _, _, h => h
  | x :: l, s, hs, h => tRun_evk hB l (tPick_ok hB hs x) (tPick_evk hB hs h x)
/-! ### how many events -/
def EvC (K n : Nat) (s : Mst) : Prop := s.evs.length + tot s.bufs + n ≤ K
theorem EvC.mono {K n m : Nat} {s : Mst} (h : EvC K n s) (hm : m ≤ n) : EvC K m s := by unfold EvC at *; omega
theorem EvC.flush {K n : Nat} {s : Mst} (h : EvC K n s) (t : Nat) : EvC K n (tflush t s) := by
  cases hb : s.bufs.getD t [] with
  | nil => rw [tflush_nil hb]; exact h
  | cons x l =>
    have ht : t < s.bufs.length := by
      rcases Nat.lt_or_ge t s.bufs.length with h1 | h1
      · exact h1
      · rw [getD_nil_of_ge _ _ _ h1] at hb; cases hb
    rw [tflush_cons hb]
    have h2 := tot_set s.bufs t l ht
    rw [hb] at h2
    unfold EvC at *
    simp only [List.length_cons] at h2
    simp only [List.length_append, List.length_cons, List.length_nil]
    omega
theorem EvC.note {K n : Nat} {s : Mst} (h : EvC K (n + 1) s) (t : Int) (x : Evt) : EvC K n (noteM t s x) := by
  unfold EvC at *
  show (s.evs ++ [_]).length + tot s.bufs + n ≤ K
  simp only [List.length_append, List.length_cons, List.length_nil]
  omega
theorem insR_evc {K n : Nat} (t : Nat) (s : Mst) (th : Th) (i : Ins) (h : EvC K (n + 2) s) : EvC K n (insR (tOps B t) s th i).2 := by
  have h1 : EvC K (n + 1) s := h.mono (by omega)
  have h0 : EvC K n s := h.mono (by omega)
  have hfn : ∀ (t m : Nat) (s : Mst) (k : Nat), EvC K k s → EvC K k (tflushN t m s) := fun t m => by
    induction m with
    | zero => exact fun _ _ h => h
    | succ m ih => exact fun s k h => ih _ k (h.flush t)
  have hrem : ∀ (s : Mst) (k : Nat), EvC K k s → EvC K k (tremote s) := fun s k h => by
    unfold tremote
    generalize List.range s.bufs.length = l
    induction l generalizing s with
    | nil => exact h
    | cons a l ih => exact ih _ (hfn a _ _ _ h)
  have hlock : ∀ (s : Mst) (pc : Int) (m : Nat) (old v : Int) (ok : Bool), EvC K (n + 1) s → EvC K n (lockS (tOps B t) s pc m old v ok) := fun s pc m old v ok h => by
    unfold lockS
    cases ok
    · exact EvC.note h _ _
    · exact EvC.note (s := { s with mem := s.mem.set m v }) h _ _
  have hst : ∀ (a : Nat) (v : Int), EvC K (n + 1) ((tOps B t).store s a v) := fun a v => by
    show EvC K (n + 1) (if a < B.m then ({ s with bufs := _ } : Mst) else s)
    split
    · unfold EvC at *
      show s.evs.length + tot (s.bufs.set t (s.bufs.getD t [] ++ [((a : Int), v)])) + (n + 1) ≤ K
      rcases Nat.lt_or_ge t s.bufs.length with ht | ht
      · have := tot_set s.bufs t (s.bufs.getD t [] ++ [((a : Int), v)]) ht
        simp only [List.length_append, List.length_cons, List.length_nil] at this
        omega
      · rw [List.set_eq_of_length_le ht]; omega
    · exact h1
  have hsl : ∀ (s : Mst) (a : Nat) (k : Nat), EvC K k s → EvC K k ((tOps B t).sleep s a) := fun s a k h => by
    show EvC K k (sleepM (t : Int) s a)
    unfold sleepM
    split <;> exact h
  unfold insR
  split
  · exact h0.flush _
  split
  · exact h0.flush _
  split
  · exact EvC.note h1 _ _
  split
  · exact h0
  split
  · show EvC K n (asksR (tOps B t) s th _ _ _ _).2
    unfold asksR
    split
    · exact EvC.note h1 _ _
    split
    · exact EvC.note (hst _ _) _ _
    split
    · exact hlock _ _ _ _ _ _ h1
    split
    · exact hlock _ _ _ _ _ _ h1
    split
    · exact hlock _ _ _ _ _ _ h1
    split
    · unfold waitR
      split
      · exact hsl _ _ _ (EvC.note h1 _ _)
      · exact EvC.note h1 _ _
    · exact EvC.note (s := ((tOps B t).wake s _ _).2) h1 _ _
  · show EvC K n (plainR (tOps B t) s th _ _ _ _ _ _).2
    unfold plainR
    repeat' split
    all_goals first
      | exact h0
      | exact EvC.note h1 _ _
      | exact EvC.note (hrem _ _ h1) _ _
theorem tPick_evc {K n : Nat} {s : Mst} (h : EvC K (n + 2) s) (x : Int × Int) : EvC K n (tPick B s x) := by
  have h1 : EvC K (n + 1) s := h.mono (by omega)
  have h0 : EvC K n s := h.mono (by omega)
  unfold tPick
  split
  · exact h0
  split
  · show EvC K n (stepR (tOps B x.2.toNat) s _ _).2
    unfold stepR
    split
    · exact h0
    split
    · exact EvC.note h1 _ _
    split
    · exact EvC.note h1 _ _
    split
    · exact EvC.note h1 _ _
    · exact insR_evc _ _ _ _ h
  split
  · exact h0.flush _
  split
  · unfold rouseM
    split
    · exact EvC.note (s := { s with slp := _, ths := _ }) h1 _ _
    · exact h0
  · exact h0
theorem tRun_evc {K : Nat} : ∀ (l : List (Int × Int)) {n : Nat} {s : Mst}, EvC K (n + 2 * l.length) s → EvC K n (tRun B s l)
  | [], _, _, h => h
  | x :: l, n, s, h => tRun_evc l (tPick_evc (n := n + 2 * l.length) (h.mono (by simp only [List.length_cons]; omega)) x)
theorem can_of {s : Mst} (hs : TOk B s) (hB : MBok B) (h : EvC 999999000 0 s) : mCan B 3 s := by
  have hl : s.ths.length ≤ 8 := by rw [hs.ok.nt]; exact hB.n8
  have h8 := nodup_le s.ths.length (s.slp.map (·.1)) hs.ok.slp.nd (fun x hx => by
    obtain ⟨y, hy, e⟩ := List.mem_map.1 hx
    rw [← e]; exact hs.ok.slp.lo y hy)
  rw [List.length_map] at h8
  refine ⟨by unfold EvC at h; omega, by omega, fun x hx => hs.ok.slp.lo x hx, fun b hb e he => (hs.ok.buf b hb e he).1, hl⟩
end
end Go.Proofs.YtmhfpjnkjlhbpaaGreatDoor
