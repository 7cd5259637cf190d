/- law08: code ahead and behind changes nothing of a step (plain). -/
import Derived.Test.YtjmnogpnjombgaaDoorAskLaw
namespace Go.Proofs.YtjmnogpnjombgaaDoor
open Go.ChangeShapes Go.WideShapes Go.ChangeAt Go.RowKit Go.Deep
set_option linter.unusedVariables false
set_option maxRecDepth 100000
set_option linter.unusedSimpArgs false

/-- The same, but for what the events tell. -/
structure AlikeS (a b : Yst) : Prop where
  mem : b.mem = a.mem
  buf : b.buf = a.buf
  slp : b.slp = a.slp
  asks : b.asks = a.asks
  evs : b.evs.length = a.evs.length
theorem AlikeS.refl (a : Yst) : AlikeS a a := ⟨rfl, rfl, rfl, rfl, rfl⟩
theorem AlikeS.note {B : YB} {a b : Yst} (h : AlikeS a b) (x y : Evt) : AlikeS ((yOps B).note a x) ((yOps B).note b y) :=
  ⟨h.mem, h.buf, h.slp, h.asks, by show (b.evs ++ [y]).length = (a.evs ++ [x]).length; rw [List.length_append, List.length_append, h.evs]; rfl⟩
theorem AlikeS.sleep {B : YB} {a b : Yst} (h : AlikeS a b) (m : Nat) : AlikeS ((yOps B).sleep a m) ((yOps B).sleep b m) :=
  ⟨h.mem, h.buf, by show b.slp ++ _ = a.slp ++ _; rw [h.slp], by show b.asks ++ _ = a.asks ++ _; rw [h.asks], h.evs⟩
def moveT (t : Th) (n : Int) : Th := { t with pc := t.pc + n }
def Alike (n : Int) (r r' : Th × Yst) : Prop := r'.1 = moveT r.1 n ∧ AlikeS r.2 r'.2
theorem right_size (i : Ins) (s1 s2 : Int) (hj : jmpB i.op = false) : rightB i s1 = rightB i s2 := by
  unfold rightB
  by_cases ho : 0 ≤ i.op ∧ i.op < 28
  · rw [if_pos ho, if_pos ho]
    have := List.all_eq_true.1 jmpB_all i.op.toNat (List.mem_range.2 (by omega))
    rw [show ((i.op.toNat : Nat) : Int) = i.op by omega, hj] at this
    have hm : (kindAt i.op.toNat).T = false := eq_of_beq this
    have e : ∀ s, RightP (kindAt i.op.toNat) i.a i.b i.c i.k s ↔ (FieldP i.a (kindAt i.op.toNat).A 7 ∧ FieldP i.b ((kindAt i.op.toNat).B || (kindAt i.op.toNat).M) (if (kindAt i.op.toNat).M = true then 8 else 7) ∧ FieldP i.c (kindAt i.op.toNat).C 7 ∧ ((kindAt i.op.toNat).K = true ∨ i.k = 0)) := fun s => by
      unfold RightP
      rw [hm]
      simp
    by_cases h1 : RightP (kindAt i.op.toNat) i.a i.b i.c i.k s1
    · rw [decide_eq_true h1, decide_eq_true ((e s2).2 ((e s1).1 h1))]
    · rw [decide_eq_false h1, decide_eq_false (fun h2 => h1 ((e s1).2 ((e s2).1 h2)))]
  · rw [if_neg ho, if_neg ho]
theorem pc_swap (a n : Int) : a + n + 1 = a + 1 + n := by omega
theorem alike_lock (B : YB) (s : Yst) (p p' : Int) (m : Nat) (old v : Int) (ok : Bool) : AlikeS (lockS (yOps B) s p m old v ok) (lockS (yOps B) s p' m old v ok) := by
  unfold lockS
  exact (AlikeS.refl _).note (B := B) _ _
theorem alike_asks (B : YB) (s : Yst) (t : Th) (n op : Int) (a c m : Nat) : (asksR (yOps B) s (moveT t n) op a c m).1 = moveT (asksR (yOps B) s t op a c m).1 n ∧ AlikeS (asksR (yOps B) s t op a c m).2 (asksR (yOps B) s (moveT t n) op a c m).2 := by
  unfold asksR
  by_cases h1 : op = 16
  · rw [if_pos h1, if_pos h1]; exact ⟨rfl, (AlikeS.refl _).note (B := B) _ _⟩
  rw [if_neg h1, if_neg h1]
  by_cases h2 : op = 17
  · rw [if_pos h2, if_pos h2]; exact ⟨rfl, (AlikeS.refl _).note (B := B) _ _⟩
  rw [if_neg h2, if_neg h2]
  by_cases h3 : op = 19
  · rw [if_pos h3, if_pos h3]; exact ⟨rfl, alike_lock B _ _ _ _ _ _ _⟩
  rw [if_neg h3, if_neg h3]
  by_cases h4 : op = 20
  · rw [if_pos h4, if_pos h4]; exact ⟨rfl, alike_lock B _ _ _ _ _ _ _⟩
  rw [if_neg h4, if_neg h4]
  by_cases h5 : op = 21
  · rw [if_pos h5, if_pos h5]; exact ⟨rfl, alike_lock B _ _ _ _ _ _ _⟩
  rw [if_neg h5, if_neg h5]
  by_cases h6 : op = 23
  · rw [if_pos h6, if_pos h6]
    unfold waitR
    by_cases h7 : ((yOps B).load s m).1 = t.regs a
    · rw [if_pos h7, if_pos (show ((yOps B).load s m).1 = (moveT t n).regs a from h7)]; exact ⟨rfl, ((AlikeS.refl _).note (B := B) _ _).sleep (B := B) m⟩
    · rw [if_neg h7, if_neg (show ¬ ((yOps B).load s m).1 = (moveT t n).regs a from h7)]; exact ⟨rfl, (AlikeS.refl _).note (B := B) _ _⟩
  rw [if_neg h6, if_neg h6]
  exact ⟨rfl, (AlikeS.refl _).note (B := B) _ _⟩
theorem alike_plain (B : YB) (s : Yst) (t : Th) (n : Int) (op a b c : Nat) (k addr : Int) : (plainR (yOps B) s (moveT t n) op a b c k addr).1 = moveT (plainR (yOps B) s t op a b c k addr).1 n ∧ AlikeS (plainR (yOps B) s t op a b c k addr).2 (plainR (yOps B) s (moveT t n) op a b c k addr).2 := by
  unfold plainR
  by_cases h1 : op = 1
  · rw [if_pos h1, if_pos h1]; exact ⟨rfl, AlikeS.refl _⟩
  rw [if_neg h1, if_neg h1]
  by_cases h2 : op = 2
  · rw [if_pos h2, if_pos h2]; exact ⟨rfl, AlikeS.refl _⟩
  rw [if_neg h2, if_neg h2]
  by_cases h3 : op = 18
  · rw [if_pos h3, if_pos h3]; exact ⟨rfl, (AlikeS.refl _).note (B := B) _ _⟩
  rw [if_neg h3, if_neg h3]
  by_cases h4 : op = 22
  · rw [if_pos h4, if_pos h4]; exact ⟨rfl, (AlikeS.refl _).note (B := B) _ _⟩
  rw [if_neg h4, if_neg h4]
  by_cases h5 : op = 27
  · rw [if_pos h5, if_pos h5]; exact ⟨rfl, (AlikeS.refl _).note (B := B) _ _⟩
  rw [if_neg h5, if_neg h5]
  by_cases h6 : op = 25
  · rw [if_pos h6, if_pos h6]; exact ⟨rfl, (AlikeS.refl _).note (B := B) _ _⟩
  rw [if_neg h6, if_neg h6]
  by_cases h7 : 3 ≤ op ∧ op ≤ 12
  · rw [if_pos h7, if_pos h7]; exact ⟨rfl, AlikeS.refl _⟩
  rw [if_neg h7, if_neg h7]
  exact ⟨rfl, AlikeS.refl _⟩
theorem alike_ins (B : YB) (s : Yst) (t : Th) (i : Ins) (n : Int) (hj : jmpB i.op = false) : Alike n (insR (yOps B) s t i) (insR (yOps B) s (moveT t n) i) := by
  unfold insR
  by_cases h1 : DrainP i.op ∧ (yOps B).empty s = false
  · rw [if_pos h1, if_pos h1]; exact ⟨rfl, AlikeS.refl _⟩
  rw [if_neg h1, if_neg h1]
  by_cases h2 : i.op = 17 ∧ (yOps B).room s = false
  · rw [if_pos h2, if_pos h2]; exact ⟨rfl, AlikeS.refl _⟩
  rw [if_neg h2, if_neg h2]
  by_cases h3 : i.op = 0
  · rw [if_pos h3, if_pos h3]; exact ⟨rfl, (AlikeS.refl _).note (B := B) _ _⟩
  have hjn : ¬ jmpB i.op = true := by rw [hj]; decide
  rw [if_neg h3, if_neg h3, if_neg hjn, if_neg hjn]
  by_cases h4 : askB i.op = true
  · rw [if_pos h4, if_pos h4]
    obtain ⟨e1, e2⟩ := alike_asks B s t n i.op i.a.toNat i.c.toNat (addrF t i).toNat
    refine ⟨?_, e2⟩
    show ({ (asksR (yOps B) s (moveT t n) i.op i.a.toNat i.c.toNat (addrF t i).toNat).1 with pc := t.pc + n + 1 } : Th) = _
    rw [e1, pc_swap]
    rfl
  · rw [if_neg h4, if_neg h4]
    obtain ⟨e1, e2⟩ := alike_plain B s t n i.op.toNat i.a.toNat i.b.toNat i.c.toNat i.k 0
    refine ⟨?_, e2⟩
    show ({ (plainR (yOps B) s (moveT t n) i.op.toNat i.a.toNat i.b.toNat i.c.toNat i.k 0).1 with pc := t.pc + n + 1 } : Th) = _
    rw [e1, pc_swap]
    rfl
theorem alike_step (B : YB) (s : Yst) (t : Th) (c c' : Cd) (n : Nat) (h0 : 0 ≤ t.pc) (h1 : t.pc < (c.len : Int)) (h2 : t.pc + n < (c'.len : Int)) (hF : c'.F (t.pc.toNat + n) = c.F t.pc.toNat) (hj : jmpB (c.F t.pc.toNat).op = false) :
    Alike n (stepR (yOps B) s t c) (stepR (yOps B) s (moveT t n) c') := by
  have hF' : c'.F (moveT t n).pc.toNat = c.F t.pc.toNat := by
    rw [← hF]
    congr 1
    show (t.pc + n).toNat = _
    omega
  unfold stepR
  by_cases hst : t.st ≠ 0
  · rw [if_pos hst, if_pos (show (moveT t n).st ≠ 0 from hst)]; exact ⟨rfl, AlikeS.refl _⟩
  rw [if_neg hst, if_neg (show ¬ (moveT t n).st ≠ 0 from hst), if_neg (by omega), if_neg (show ¬ ((moveT t n).pc < 0 ∨ (c'.len : Int) ≤ (moveT t n).pc) from by show ¬ (t.pc + n < 0 ∨ (c'.len : Int) ≤ t.pc + n); omega), hF', right_size _ c'.len c.len hj]
  by_cases hr : rightB (c.F t.pc.toNat) c.len = false
  · rw [if_pos hr, if_pos hr]; exact ⟨rfl, (AlikeS.refl _).note (B := B) _ _⟩
  rw [if_neg hr, if_neg hr]
  by_cases hb : askB (c.F t.pc.toNat).op = true ∧ ((yOps B).size : Int) ≤ addrF t (c.F t.pc.toNat)
  · rw [if_pos hb, if_pos (show askB (c.F t.pc.toNat).op = true ∧ ((yOps B).size : Int) ≤ addrF (moveT t n) (c.F t.pc.toNat) from hb)]; exact ⟨rfl, (AlikeS.refl _).note (B := B) _ _⟩
  rw [if_neg hb, if_neg (show ¬ (askB (c.F t.pc.toNat).op = true ∧ ((yOps B).size : Int) ≤ addrF (moveT t n) (c.F t.pc.toNat)) from hb)]
  exact alike_ins B s t _ n hj
end Go.Proofs.YtjmnogpnjombgaaDoor
