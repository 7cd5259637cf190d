/- Common lemmas for the laws of a seat: what a call leaves of old memory ('Below'), and the last step of a law's row: it returned true, old memory is as it was. Words for memory: a slice that came in ('Sl'), a block of the call's own that is known whole ('Blk'). -/
import Derived.Test.YtmhfpjnkjlhbpaaGreatDoorRows
import Derived.WalkKit
import Derived.ProofKit
import Derived.OpenShut
import Derived.SizedLaws
import Derived.Lib.Hide
import Derived.Deep.Slices
import Derived.Deep.OwnRows
import Derived.Laws.MakeOwn
import Derived.Deep.Fields
import Derived.Deep.Draws
namespace Go.Proofs.YtmhfpjnkjlhbpaaGreatDoor
set_option maxRecDepth 100000
open Go.ChangeShapes Go.WideShapes Go.ChangeAt Go.RowKit

theorem base_own : ownKnob Tryz.prog.godebug = none := by kernel_rfl
theorem base_laidOut : laidOutB Tryz.prog = true := by kernel_rfl

theorem bcell {W w1 : World} (hb : Below W.heap.size W w1) : (∀ b o, b < W.heap.size → w1.cell? ⟨b, o, none⟩ = W.cell? ⟨b, o, none⟩) ∧ (∀ b o, b < W.heap.size → w1.frozen? ⟨b, o, none⟩ = W.frozen? ⟨b, o, none⟩) :=
  ⟨fun b o h => hb.cell (p := ⟨b, o, none⟩) h, fun b o h => hb.frozen (p := ⟨b, o, none⟩) h⟩
theorem step_below {w W w1 : World} (h : Below w.heap.size w W) (hb : Below W.heap.size W w1) : Below w.heap.size w w1 := h.trans (hb.mono h.size)
theorem lt_below {B n : Nat} {W w1 : World} (hb : Below B W w1) (h : n < W.heap.size) : n < w1.heap.size := Nat.lt_of_lt_of_le h hb.size
theorem keep_cell {W w1 : World} {b o : Nat} {v : Value} (hb : Below W.heap.size W w1) (hlt : b < W.heap.size) (h : W.cell? ⟨b, o, none⟩ = some v) : w1.cell? ⟨b, o, none⟩ = some v :=
  (hb.cell (p := ⟨b, o, none⟩) hlt).trans h

section
variable {H : Type} {enc : TypeId × Value → H}
/-- All arguments read as they did, where below the old heap's end nothing has turned. -/
theorem trodAll_stays {P : Program} (hl : laidOutB P = true) {W W' : World} (hb : Below W.heap.size W W') (ts : List TypeId) :
    ∀ (vs : List Value) (ds : List (DataW H)) (ps : List MemPlace),
    ts.all (fun t => P.readableRec t && decide (t < P.types.size)) = true → (∀ x ∈ ps, x.block < W.heap.size) →
    DataW.TrodAll enc P W 0 (fun _ => true) true ts vs ds ps → DataW.TrodAll enc P W' 0 (fun b => decide (b < W.heap.size)) true ts vs ds ps := by
  induction ts with
  | nil => intro vs ds ps _ _ h; cases vs <;> cases ds <;> first | exact h | exact h.elim
  | cons t ts ih =>
    intro vs ds ps hr hlt h
    obtain ⟨v, vs', d, ds', p, q, rfl, rfl, rfl, h1, h2⟩ := trodAll_cons h
    simp only [List.all_cons, Bool.and_eq_true, decide_eq_true_eq] at hr
    exact trodAll_cons_mk (Below.trod hl hr.1.1 hr.1.2 h1 hb (fun x hx => hlt x (List.mem_append_left _ hx))) (ih _ _ _ hr.2 (fun x hx => hlt x (List.mem_append_right _ hx)) h2)

/-- THE LAST STEP OF A LAW: it returned true, and old memory is as it was. -/
theorem law_post {f : Func} {s : ChangeSpec} {W W' : World} {args : Array Value} {ds gs : List (DataW H)} {before : List MemPlace} (tb : TypeId)
    (hv : s.vars = []) (hrt : f.resultTypes = #[tb]) (hub : Tryz.prog.underlying tb = some .bool)
    (hW : DataW.Whole enc Tryz.prog f.params.toList s.vars false W args.toList ds gs before)
    (hf : s.fn H (ds ++ gs) = { results := [.lit (.bool true)], args := ds })
    (hr : f.params.toList.all (fun t => Tryz.prog.readableRec t && decide (t < Tryz.prog.types.size)) = true)
    (hb : Below W.heap.size W W') : s.post enc Tryz.prog f false true false false W args (.bool true) W' := by
  have hW' := hW
  obtain ⟨p, q, hA, hV, rfl, hfz, hnd⟩ := hW
  rw [hv] at hV
  obtain ⟨rfl, rfl⟩ := trodVars_none hV
  refine ⟨ds, [], p ++ [], [], p, [], hW', ?_, ?_, ?_, hb.frame _, fun h => by cases h⟩
  · rw [hf, hrt]
    exact trodAll_mk1 (shut_bool hub _)
  · rw [hf]
    exact trodAll_stays base_laidOut hb _ _ _ _ hr (fun x hx => hW'.lt x (List.mem_append_left _ hx)) hA
  · rw [hf, hv]
    rfl

theorem trodAll_length {P : Program} {W : World} (ts : List TypeId) : ∀ (vs : List Value) (ds : List (DataW H)) (ps : List MemPlace), DataW.TrodAll enc P W 0 (fun _ => true) true ts vs ds ps → ds.length = ts.length := by
  induction ts with
  | nil => intro vs ds ps h; cases vs <;> cases ds <;> first | rfl | exact h.elim
  | cons t ts ih =>
    intro vs ds ps h
    obtain ⟨v, vs', d, ds', p, q, rfl, rfl, rfl, h1, h2⟩ := trodAll_cons h
    simp [ih _ _ _ h2]

set_option maxRecDepth 100000 in
/-- THE ROW's STEP of a law: the witness, and the contract over opened arguments, give what the row asks. -/
theorem law_lifted {os : Os} {f : FuncId} {fn : Func} {s : ChangeSpec} (started : os.Started) (noInit : Tryz.checked.prog.inits.idxOf? f = none) (hfn : Tryz.checked.prog.funcs[f]? = some fn)
    (witness : ∃ (w : World) (tape : Tape) (i : Input), w.os = os ∧ (w.forCall tape i).Shaped Tryz.checked.prog ∧ i.vars = [] ∧ Input.okWide Tryz.checked.prog (w.forCall tape i) .any w.heap.size f i ∧
      s.pre6 enc Tryz.checked.prog fn [] false (w.forCall tape i).memory i.args ∧ ({} : Assume).holds Tryz.checked.prog (lone (Frame.enter Tryz.checked.prog f i.args .normal) [] (w.forCall tape i)))
    (tb : TypeId) (hv : s.vars = []) (hrt : fn.resultTypes = #[tb]) (hub : Tryz.prog.underlying tb = some .bool)
    (hf : ∀ ds : List (DataW H), ds.length = fn.params.size → s.fn H (ds ++ []) = { results := [.lit (.bool true)], args := ds })
    (hr : fn.params.toList.all (fun t => Tryz.prog.readableRec t && decide (t < Tryz.prog.types.size)) = true)
    (contract : ∀ (W : World) (base : Nat) (args : Array Value) (ds : List (DataW H)) (p : List MemPlace),
      (∀ (j : Nat) t v, fn.params[j]? = some t → args[j]? = some v → Value.okWide Tryz.prog W .any base t v) →
      DataW.TrodAll enc Tryz.prog W 0 (fun _ => true) true fn.params.toList args.toList ds p → (∀ x ∈ p, x.block < W.heap.size) →
      (DataW.weightsEach Tryz.prog fn.params.toList ds).all (· ≤ reachBytes) = true →
      Calls Tryz.prog f args W fun e W' => e = .returned (.bool true) ∧ Below W.heap.size W W') :
    ReturnsInHanded {} Tryz.checked os f .any (s.pre6 enc Tryz.prog fn [] false) (s.post enc Tryz.prog fn false true false false) := by
  refine returnsInHanded_of_change_sized (C := Tryz.checked) base_own started noInit hfn witness ?_
  intro W base args ds gs before hval hW _ hsz0 _
  have hW' := hW
  obtain ⟨p, q, hA, hV, rfl, _, _⟩ := hW
  have hvt : s.plain.varTypes Tryz.checked.prog = [] := by
    unfold DataSpec.varTypes
    simp [ChangeSpec.plain, hv]
  rw [hv] at hV
  obtain ⟨rfl, rfl⟩ := trodVars_none hV
  rw [hvt] at hsz0
  simp only [List.append_nil] at hsz0
  have hlen : ds.length = fn.params.size := by simpa using trodAll_length _ _ _ _ hA
  refine (contract W base args ds p hval hA (fun x hx => hW'.lt x (List.mem_append_left _ hx)) hsz0).mono fun e W' ⟨he, hb⟩ => ?_
  exact ⟨_, he, law_post tb hv hrt hub hW' (hf ds hlen) hr hb⟩
end
end Go.Proofs.YtmhfpjnkjlhbpaaGreatDoor
namespace Go.Proofs.YtmhfpjnkjlhbpaaGreatDoor
open Go.ChangeShapes Go.WideShapes Go.ChangeAt Go.RowKit Go.Deep

/-- The slice address A leads to n cells, cell i holding 'C i', in old memory (below the heap's end). -/
def Sl (W : World) (A : Option Addr) (n : Nat) (C : Nat → Value) : Prop :=
  0 < n → ∃ b off, A = some ⟨b, off, none⟩ ∧ b < W.heap.size ∧ ∀ i, i < n → W.cell? ⟨b, off + i, none⟩ = some (C i)
theorem Sl.below {W w1 : World} {A : Option Addr} {n : Nat} {C : Nat → Value} (h : Sl W A n C) {B : Nat} (hB : W.heap.size ≤ B) (hb : Below B W w1) : Sl w1 A n C := fun hn => by
  obtain ⟨b, off, rfl, hlt, hc⟩ := h hn
  exact ⟨b, off, rfl, Nat.lt_of_lt_of_le hlt hb.size, fun i hi => (hb.cell (p := ⟨b, _, none⟩) (Nat.lt_of_lt_of_le hlt hB)).trans (hc i hi)⟩
theorem Sl.congr {W : World} {A : Option Addr} {n : Nat} {C D : Nat → Value} (h : Sl W A n C) (e : ∀ i, i < n → C i = D i) : Sl W A n D := fun hn => by
  obtain ⟨b, off, rfl, hlt, hc⟩ := h hn
  exact ⟨b, off, rfl, hlt, fun i hi => by rw [hc i hi, e i hi]⟩
theorem Sl.nil {W : World} {A : Option Addr} {C : Nat → Value} : Sl W A 0 C := fun h => absurd h (by omega)

theorem Sl.grown {W w1 : World} {A : Option Addr} {n : Nat} {C : Nat → Value} {r : Nat} (h : Sl W A n C) (hg : W.grownBy w1 (some r)) (hne : 0 < n → ∀ b off, A = some ⟨b, off, none⟩ → b ≠ r) : Sl w1 A n C := fun hn => by
  obtain ⟨b, off, rfl, hlt, hc⟩ := h hn
  have hbr := hne hn b off rfl
  exact ⟨b, off, rfl, Nat.lt_of_lt_of_le hlt hg.size, fun i hi => (World.cell?_of_block (w := W) (a := ⟨b, off + i, none⟩) (hg.block b hlt (fun e => hbr (by injection e)))).trans (hc i hi)⟩

/-- Block g is just the cells cs, of element type t, none frozen. -/
def Blk (w : World) (g : Nat) (t : TypeId) (cs : Array Value) : Prop := w.heap[g]? = some (.cells cs t (0, 0))
section
variable {w w' : World} {g : Nat} {t : TypeId} {cs : Array Value}
theorem Blk.lt (h : Blk w g t cs) : g < w.heap.size := by
  rcases Nat.lt_or_ge g w.heap.size with hlt | hge
  · exact hlt
  · unfold Blk at h; rw [Array.getElem?_eq_none hge] at h; cases h
theorem Blk.cell (h : Blk w g t cs) (i : Nat) : w.cell? ⟨g, i, none⟩ = cs[i]? := cell_of_row w g i cs t (0, 0) h
theorem Blk.frozen (h : Blk w g t cs) (i : Nat) : w.frozen? ⟨g, i, none⟩ = false := by
  unfold Blk at h
  simp [World.frozen?, h]
theorem Blk.new (w : World) (t : TypeId) (cs : Array Value) : Blk (w.alloc (.cells cs t)) w.heap.size t cs := heap_alloc_new w _
theorem Blk.drew (h : Blk w g t cs) : Blk w.drew g t cs := h
theorem Blk.drewN (h : Blk w g t cs) (n : Nat) : Blk (w.drewN n) g t cs := h
theorem Blk.alloc (h : Blk w g t cs) (o : Obj) : Blk (w.alloc o) g t cs := (Below.heap_alloc w o g h.lt).trans h
theorem Blk.set_ (h : Blk w g t cs) (i : Nat) (u : Value) : Blk (w.setCell ⟨g, i, none⟩ u) g t (cs.setIfInBounds i u) := by
  unfold Blk at h ⊢
  simp [World.setCell, Array.getElem?_modify, h]
theorem Blk.far (h : Blk w g t cs) {p : Addr} (hp : g ≠ p.block) (u : Value) : Blk (w.setCell p u) g t cs := (Below.heap_setCell w p u g hp).trans h
theorem Blk.below {B : Nat} (h : Blk w g t cs) (hb : Below B w w') (hg : g < B) : Blk w' g t cs := (hb.block g hg).trans h
theorem Blk.grown {row : Option Nat} (h : Blk w g t cs) (hb : w.grownBy w' row) (hg : some g ≠ row) : Blk w' g t cs := (hb.block g h.lt hg).trans h
end

section
variable {H : Type} {enc : TypeId × Value → H} {P : Program} {W : World}
/-- An argument that is a slice of integers, opened: nil, empty or not. -/
theorem open_sl_ints {t e : TypeId} {k : IntKind} {v : Value} {d : DataW H} {p : List MemPlace} {base : Nat} (ht : P.underlying t = some (.slice e)) (he : P.underlying e = some (.int k)) (hc : P.cellsOf e = 1)
    (hval : Value.okWide P W .any base t v) (h : DataW.Trod enc P W 0 (fun _ => true) true t v d p) (hlt : ∀ x ∈ p, x.block < W.heap.size) :
    ∃ (A : Option Addr) (len cap : Nat) (Z : Nat → Int), v = .slice A len cap ∧ len ≤ cap ∧ cap ≤ maxLen ∧ Sl W A len (fun i => .int k (Z i)) ∧ (∀ i, i < len → (Lit.int k (Z i)).wf = true) := by
  obtain ⟨a0, len, cap, rfl⟩ := okWide_slice ht hval
  obtain ⟨fuel, hf⟩ := h
  rcases open_ints ht he hc hf with ⟨hcs, hx⟩ | ⟨a, len', cap', zs, hcs, _, hl, hm, hz, hx, hcell, hwz⟩
  · simp [Value.cells] at hcs
    obtain ⟨rfl, rfl, rfl⟩ := hcs
    exact ⟨none, 0, 0, fun _ => 0, rfl, Nat.le_refl _, Nat.zero_le _, Sl.nil, fun i hi => absurd hi (by omega)⟩
  · simp [Value.cells] at hcs
    obtain ⟨rfl, rfl, rfl⟩ := hcs
    simp only [Prod.mk.injEq] at hx
    obtain ⟨rfl, rfl⟩ := hx
    simp only [if_true] at hz
    refine ⟨some a, len, cap, fun i => zs.getD i 0, rfl, hl, hm, fun hn => ?_, fun i hi => hwz _ ?_⟩
    · obtain ⟨b, off, spot⟩ := a
      have hspot : spot = none := by simpa [Addr.add] using World.cell?_spot (hcell 0 (by omega))
      subst hspot
      have hbW : b < W.heap.size := hlt (.cell b off) (MemPlace.mem_row.2 ⟨0, by omega, by simp⟩)
      exact ⟨b, off, rfl, hbW, fun j hj => by rw [← add_plain]; exact hcell j (by omega)⟩
    · have : i < zs.length := by omega
      simp [List.getD, List.getElem?_eq_getElem this]
end

/-- The slice address A leads to len elements of 'size' cells each, in old memory; element i's cells are 'E i'. -/
def SlE (W : World) (A : Option Addr) (len size : Nat) (E : Nat → List Value) : Prop :=
  0 < len → ∃ b off, A = some ⟨b, off, none⟩ ∧ b < W.heap.size ∧ ∀ i, i < len → ∀ j u, (E i)[j]? = some u → W.cell? ⟨b, off + i * size + j, none⟩ = some u
theorem SlE.below {W w1 : World} {A : Option Addr} {len size : Nat} {E : Nat → List Value} (h : SlE W A len size E) {B : Nat} (hB : W.heap.size ≤ B) (hb : Below B W w1) : SlE w1 A len size E := fun hn => by
  obtain ⟨b, off, rfl, hlt, hc⟩ := h hn
  exact ⟨b, off, rfl, Nat.lt_of_lt_of_le hlt hb.size, fun i hi j u hu => (hb.cell (p := ⟨b, _, none⟩) (Nat.lt_of_lt_of_le hlt hB)).trans (hc i hi j u hu)⟩
theorem SlE.nil {W : World} {A : Option Addr} {size : Nat} {E : Nat → List Value} : SlE W A 0 size E := fun h => absurd h (by omega)

section
variable {H : Type} {enc : TypeId × Value → H} {P : Program} {W : World}
/-- An argument that is a slice, opened element by element: nil, empty or not. -/
theorem open_sl {α : Type} [Inhabited α] {t e : TypeId} {size : Nat} {v : Value} {d : DataW H} {p : List MemPlace} {base : Nat} (ht : P.underlying t = some (.slice e)) (hsz : P.cellsOf e = size) (hpos : 0 < size)
    (E : α → List Value) (ok : α → Prop) (helem : ∀ n cs x, DataW.trod enc P W 0 (fun _ => true) true n e cs = some x → ∃ a, cs = E a ∧ ok a)
    (hval : Value.okWide P W .any base t v) (h : DataW.Trod enc P W 0 (fun _ => true) true t v d p) (hlt : ∀ x ∈ p, x.block < W.heap.size) :
    ∃ (A : Option Addr) (len cap : Nat) (F : Nat → α), v = .slice A len cap ∧ len ≤ cap ∧ cap ≤ maxLen ∧ SlE W A len size (fun i => E (F i)) ∧ ∀ i, i < len → ok (F i) := by
  obtain ⟨a0, len, cap, rfl⟩ := okWide_slice ht hval
  obtain ⟨fuel, hf⟩ := h
  rcases Go.Deep.open_slice ht hf with ⟨hcs, hx⟩ | ⟨a, len', cap', m, n, D, Pl, hcs, _, hl, hm, hmm, hx, hel⟩
  · simp [Value.cells] at hcs
    obtain ⟨rfl, rfl, rfl⟩ := hcs
    exact ⟨none, 0, 0, fun _ => default, rfl, Nat.le_refl _, Nat.zero_le _, SlE.nil, fun i hi => absurd hi (by omega)⟩
  · simp [Value.cells] at hcs
    obtain ⟨rfl, rfl, rfl⟩ := hcs
    simp only [if_true] at hmm
    simp only [Prod.mk.injEq] at hx
    obtain ⟨rfl, rfl⟩ := hx
    have hel2 : ∀ i, i < len → ∃ a', ok a' ∧ ∀ j u, (E a')[j]? = some u → W.cell? ((a.add (i * size)).add j) = some u := by
      intro i hi
      obtain ⟨cs', h1, h2⟩ := hel i (by omega)
      rw [hsz] at h1
      obtain ⟨a', rfl, ha⟩ := helem _ _ _ h2
      obtain ⟨_, hlen, hc⟩ := World.cells?_some h1
      refine ⟨a', ha, fun j u hu => ?_⟩
      have hj : j < size := by rw [← hlen]; exact (List.getElem?_eq_some_iff.1 hu).1
      rw [hc j hj, hu]
    obtain ⟨F, hF⟩ := Go.Deep.choose_lt (p := fun i a' => ok a' ∧ ∀ j u, (E a')[j]? = some u → W.cell? ((a.add (i * size)).add j) = some u) hel2
    refine ⟨some a, len, cap, F, rfl, hl, hm, fun hn => ?_, fun i hi => (hF i hi).1⟩
    obtain ⟨b, off, spot⟩ := a
    have hspot : spot = none := by
      obtain ⟨cs', h1, h2⟩ := hel 0 (by omega)
      rw [hsz] at h1
      obtain ⟨_, hlen, hc⟩ := World.cells?_some h1
      have h3 := hc 0 hpos
      rw [List.getElem?_eq_getElem (by omega)] at h3
      simpa [Addr.add] using World.cell?_spot h3
    subst hspot
    have hbW : b < W.heap.size := hlt (.cell b off) (List.mem_append_left _ (MemPlace.mem_row.2 ⟨0, by rw [hsz]; exact Nat.mul_pos (by omega) hpos, by simp⟩))
    refine ⟨b, off, rfl, hbW, fun i hi j u hu => ?_⟩
    have := (hF i hi).2 j u hu
    rw [add_plain, add_plain] at this
    exact this

/-- An element of two integer fields. -/
theorem elem_int2 {e : TypeId} {k0 k1 : IntKind} {f0 f1 : Field} (he : P.underlying e = some (.struct #[f0, f1])) (hc : P.cellsOf e = 2) (hone : oneCellFields P #[f0, f1] = true)
    (h0 : P.underlying f0.type = some (.int k0)) (h1 : P.underlying f1.type = some (.int k1)) (n : Nat) (cs : List Value) (x : DataW H × List MemPlace)
    (h : DataW.trod enc P W 0 (fun _ => true) true n e cs = some x) : ∃ a : Int × Int, cs = [.int k0 a.1, .int k1 a.2] ∧ (Lit.int k0 a.1).wf = true ∧ (Lit.int k1 a.2).wf = true := by
  obtain ⟨y0, y1, m, hx, hlen, h0', h1'⟩ := trod_struct2 he h
  obtain ⟨o0, e0⟩ := hone_of hone 0 f0 rfl
  obtain ⟨o1, e1⟩ := hone_of hone 1 f1 rfl
  rw [hc] at hlen
  match cs, hlen with
  | [c0, c1], _ =>
    rw [o0, e0] at h0'
    rw [o1, e1] at h1'
    obtain ⟨z0, q0, _, w0⟩ := DataW.trod_int h0 h0'
    obtain ⟨z1, q1, _, w1⟩ := DataW.trod_int h1 h1'
    simp at q0 q1
    subst q0
    subst q1
    exact ⟨(z0, z1), rfl, w0, w1⟩
end
end Go.Proofs.YtmhfpjnkjlhbpaaGreatDoor
