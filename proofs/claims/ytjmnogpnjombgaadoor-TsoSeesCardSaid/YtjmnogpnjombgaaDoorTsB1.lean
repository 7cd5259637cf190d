/- law09 (plain): what a machine with buffers tells by its events: memory, what waits, what each event has to tell. law09 (plain): what a machine's events tell, over steps and picks. -/
import Derived.Test.YtjmnogpnjombgaaDoorTsA4
namespace Go.Proofs.YtjmnogpnjombgaaDoor
open Go.ChangeShapes Go.WideShapes Go.ChangeAt Go.RowKit Go.Deep
set_option linter.unusedVariables false
set_option maxRecDepth 100000
set_option linter.unusedSimpArgs false

def evz : Evt := ⟨0, 0, 0, 0, 0, 0, 0, false⟩
/-- What of a thread's stores is not in memory yet, told by events. -/
def wstepE (t : Int) (l : List Ent) (x : Evt) : List Ent := if x.who = t then (if x.kind = 2 then l ++ [(x.addr, x.value)] else if x.kind = 3 then l.tail else l) else l
def waitL (l : List Evt) (t : Int) : List Ent := l.foldl (wstepE t) []
theorem waitL_snoc (l : List Evt) (x : Evt) (t : Int) : waitL (l ++ [x]) t = wstepE t (waitL l t) x := by unfold waitL; rw [List.foldl_append]; rfl
/-- Memory, told by events. -/
def mstepE (m : List Int) (x : Evt) : List Int := if x.kind = 3 ∨ x.kind = 4 then m.set x.addr.toNat x.value else m
def memL (l : List Evt) (M0 : List Int) : List Int := l.foldl mstepE M0
theorem memL_snoc (l : List Evt) (x : Evt) (M0 : List Int) : memL (l ++ [x]) M0 = mstepE (memL l M0) x := by unfold memL; rw [List.foldl_append]; rfl
theorem memL_len (l : List Evt) (M0 : List Int) : (memL l M0).length = M0.length := by
  unfold memL
  induction l generalizing M0 with
  | nil => rfl
  | cons x l ih =>
    rw [List.foldl_cons, ih]
    unfold mstepE
    split
    · rw [List.length_set]
    · rfl
def InR (M0 : List Int) (a : Int) : Prop := 0 ≤ a ∧ a < (M0.length : Int)
def seeL (w : List Ent) (mem : List Int) (a : Int) : Int := if (fnB w a).2 = true then (fnB w a).1 else mem.getD a.toNat 0
/-- What an event has to tell. -/
structure EvX (M0 : List Int) (l : List Evt) (x : Evt) : Prop where
  flush : x.kind = 3 → (waitL l x.who).head? = some (x.addr, x.value) ∧ InR M0 x.addr
  none : x.kind = 4 ∨ x.kind = 5 ∨ x.kind = 8 ∨ x.kind = 9 ∨ x.kind = 10 → waitL l x.who = []
  swap : x.kind = 4 → InR M0 x.addr ∧ (memL l M0).getD x.addr.toNat 0 = x.old
  wait : x.kind = 8 → InR M0 x.addr ∧ (memL l M0).getD x.addr.toNat 0 = x.value
  load : x.kind = 1 → InR M0 x.addr ∧ seeL (waitL l x.who) (memL l M0) x.addr = x.value
structure TInv (M0 : List Int) (s : Mst) : Prop where
  mem : s.mem = memL s.evs M0
  wt : ∀ t : Nat, waitL s.evs (t : Int) = s.bufs.getD t []
  ev : ∀ i, i < s.evs.length → EvX M0 (s.evs.take i) (s.evs.getD i evz)
section
variable {M0 : List Int} {s s' : Mst}
theorem TInv.congr (h : TInv M0 s) (hm : s'.mem = s.mem) (hb : s'.bufs = s.bufs) (he : s'.evs = s.evs) : TInv M0 s' := ⟨by rw [hm, he]; exact h.mem, by rw [he, hb]; exact h.wt, by rw [he]; exact h.ev⟩
/-- An event more. -/
theorem TInv.snoc (h : TInv M0 s) (x : Evt) (hx : EvX M0 s.evs x) (he : s'.evs = s.evs ++ [x]) (hm : s'.mem = mstepE s.mem x) (hb : ∀ t : Nat, s'.bufs.getD t [] = wstepE (t : Int) (s.bufs.getD t []) x) : TInv M0 s' := by
  refine ⟨by rw [hm, he, memL_snoc, h.mem], fun t => by rw [he, waitL_snoc, h.wt t, hb t], fun i hi => ?_⟩
  rw [he] at hi ⊢
  rcases getD_snoc s.evs x evz i hi with ⟨h1, h2⟩ | ⟨h1, h2⟩
  · rw [h2, List.take_append_of_le_length (Nat.le_of_lt h1)]
    exact h.ev i h1
  · rw [h2, h1, List.take_append_of_le_length (Nat.le_refl _), List.take_length]
    exact hx
/-- A note that stores nothing and flushes nothing. -/
theorem TInv.note (h : TInv M0 s) (t : Nat) (x : Evt) (hk : x.kind ≠ 2 ∧ x.kind ≠ 3 ∧ x.kind ≠ 4) (hx : EvX M0 s.evs { x with who := (t : Int) }) : TInv M0 (noteM (t : Int) s x) :=
  h.snoc { x with who := (t : Int) } hx rfl (by show s.mem = _; unfold mstepE; rw [if_neg (fun q => q.elim hk.2.1 hk.2.2)]) (fun u => by
    show s.bufs.getD u [] = _
    unfold wstepE
    split
    · rw [if_neg hk.1, if_neg hk.2.1]
    · rfl)
/-- .. of a kind that has nothing to tell. -/
theorem TInv.other (h : TInv M0 s) (t : Nat) (x : Evt) (hk : x.kind = 6 ∨ x.kind = 7 ∨ x.kind = 11 ∨ x.kind = 12 ∨ x.kind = 13) : TInv M0 (noteM (t : Int) s x) := by
  refine h.note t x ⟨by omega, by omega, by omega⟩ ⟨fun q => ?_, fun q => ?_, fun q => ?_, fun q => ?_, fun q => ?_⟩
  all_goals
    have q' := q
    simp only at q'
    omega
theorem TInv.flush (h : TInv M0 s) (t : Nat) (ho : ∀ b ∈ s.bufs, ∀ e ∈ b, 0 ≤ e.1 ∧ e.1 < (M0.length : Int)) : TInv M0 (tflush t s) := by
  cases hb : s.bufs.getD t [] with
  | nil => rw [tflush_nil hb]; exact h
  | cons x l =>
    have ht : t < s.bufs.length := by
      rcases Nat.lt_or_ge t s.bufs.length with h1 | h1
      · exact h1
      · rw [getD_nil_of_ge _ _ _ h1] at hb; cases hb
    have hin : 0 ≤ x.1 ∧ x.1 < (M0.length : Int) := by
      obtain ⟨b, h1, h2⟩ := mem_getD (l := s.bufs) (t := t) (e := x) (by rw [hb]; simp)
      exact ho b h1 x h2
    have hw := h.wt t
    rw [hb] at hw
    rw [tflush_cons hb]
    refine h.snoc ⟨3, (t : Int), 0, x.1, x.2, 0, 0, false⟩ ⟨fun _ => ⟨by show (waitL s.evs (t : Int)).head? = _; rw [hw]; rfl, hin⟩, fun q => ?_, fun q => ?_, fun q => ?_, fun q => ?_⟩ rfl ?_ (fun u => ?_)
    · have q' : (3 : Int) = 4 ∨ (3 : Int) = 5 ∨ (3 : Int) = 8 ∨ (3 : Int) = 9 ∨ (3 : Int) = 10 := q
      omega
    · exact absurd (show (3 : Int) = 4 from q) (by decide)
    · exact absurd (show (3 : Int) = 8 from q) (by decide)
    · exact absurd (show (3 : Int) = 1 from q) (by decide)
    · show s.mem.set x.1.toNat x.2 = _
      unfold mstepE
      rw [if_pos (.inl rfl)]
    · show (s.bufs.set t l).getD u [] = _
      unfold wstepE
      by_cases e : u = t
      · subst e
        rw [if_pos rfl, if_neg (by show ¬ (3 : Int) = 2; decide), if_pos rfl, hb]
        simp [List.getD_eq_getElem?_getD, List.getElem?_set_self ht]
      · rw [if_neg (fun q => e (by have q' : (t : Int) = (u : Int) := q; omega))]
        simp only [List.getD_eq_getElem?_getD, List.getElem?_set_ne (fun q => e q.symm)]
theorem flush_in {l : List (List Ent)} {t : Nat} {x : Ent} {r : List Ent} {P : Ent → Prop} (h : ∀ b ∈ l, ∀ e ∈ b, P e) (hb : l.getD t [] = x :: r) : ∀ b ∈ l.set t r, ∀ e ∈ b, P e := fun b hb' e he => by
  rcases mem_set hb' with h1 | rfl
  · exact h b h1 e he
  · obtain ⟨b, h1, h2⟩ := mem_getD (l := l) (t := t) (e := e) (by rw [hb]; exact List.mem_cons_of_mem _ he)
    exact h b h1 e h2
theorem tflush_in (t : Nat) {P : Ent → Prop} (h : ∀ b ∈ s.bufs, ∀ e ∈ b, P e) : ∀ b ∈ (tflush t s).bufs, ∀ e ∈ b, P e := by
  cases hb : s.bufs.getD t [] with
  | nil => rw [tflush_nil hb]; exact h
  | cons x l => rw [tflush_cons hb]; exact flush_in h hb
theorem TInv.flushN (t : Nat) : ∀ (k : Nat) {s : Mst}, TInv M0 s → (∀ b ∈ s.bufs, ∀ e ∈ b, 0 ≤ e.1 ∧ e.1 < (M0.length : Int)) → TInv M0 (tflushN t k s) ∧ ∀ b ∈ (tflushN t k s).bufs, ∀ e ∈ b, 0 ≤ e.1 ∧ e.1 < (M0.length : Int)
  | 0, _, h, ho => ⟨h, ho⟩
  | k + 1, s, h, ho => TInv.flushN t k (h.flush t ho) (tflush_in t ho)
theorem TInv.remote (h : TInv M0 s) (ho : ∀ b ∈ s.bufs, ∀ e ∈ b, 0 ≤ e.1 ∧ e.1 < (M0.length : Int)) : TInv M0 (tremote s) := by
  unfold tremote
  generalize List.range s.bufs.length = l
  suffices hs : ∀ (l : List Nat) (s : Mst), TInv M0 s → (∀ b ∈ s.bufs, ∀ e ∈ b, 0 ≤ e.1 ∧ e.1 < (M0.length : Int)) → TInv M0 (l.foldl tdrain s) from hs l s h ho
  intro l
  induction l with
  | nil => exact fun s h _ => h
  | cons t l ih =>
    intro s h ho
    obtain ⟨h1, h2⟩ := TInv.flushN t (s.bufs.getD t []).length h ho
    exact ih _ h1 h2
/-- A drained buffer stays drained while others are. -/
theorem nil_flush {t u : Nat} (h : s.bufs.getD t [] = []) : (tflush u s).bufs.getD t [] = [] := by
  cases hb : s.bufs.getD u [] with
  | nil => rw [tflush_nil hb]; exact h
  | cons x l =>
    rw [tflush_cons hb]
    show (s.bufs.set u l).getD t [] = []
    by_cases e : t = u
    · subst e; rw [h] at hb; cases hb
    · simp only [List.getD_eq_getElem?_getD, List.getElem?_set_ne (fun q => e q.symm)] at h ⊢
      exact h
theorem nil_flushN {t u : Nat} : ∀ (k : Nat) {s : Mst}, s.bufs.getD t [] = [] → (tflushN u k s).bufs.getD t [] = []
  | 0, _, h => h
  | k + 1, _, h => nil_flushN k (nil_flush h)
theorem nil_remote {t : Nat} (h : s.bufs.getD t [] = []) : (tremote s).bufs.getD t [] = [] := by
  unfold tremote
  generalize List.range s.bufs.length = l
  induction l generalizing s with
  | nil => exact h
  | cons u l ih => exact ih (nil_flushN _ h)
/-- A store, told. -/
theorem TInv.store (h : TInv M0 s) (t : Nat) (ht : t < s.bufs.length) (pc : Int) (a : Nat) (v : Int) : TInv M0 (noteM (t : Int) { s with bufs := s.bufs.set t (s.bufs.getD t [] ++ [((a : Int), v)]) } ⟨2, 0, pc, (a : Int), v, 0, 0, false⟩) := by
  refine h.snoc ⟨2, (t : Int), pc, (a : Int), v, 0, 0, false⟩ ⟨fun q => ?_, fun q => ?_, fun q => ?_, fun q => ?_, fun q => ?_⟩ rfl ?_ (fun u => ?_)
  · exact absurd (show (2 : Int) = 3 from q) (by decide)
  · have q' : (2 : Int) = 4 ∨ (2 : Int) = 5 ∨ (2 : Int) = 8 ∨ (2 : Int) = 9 ∨ (2 : Int) = 10 := q
    omega
  · exact absurd (show (2 : Int) = 4 from q) (by decide)
  · exact absurd (show (2 : Int) = 8 from q) (by decide)
  · exact absurd (show (2 : Int) = 1 from q) (by decide)
  · show s.mem = _
    unfold mstepE
    rw [if_neg (by intro q; have q' : (2 : Int) = 3 ∨ (2 : Int) = 4 := q; omega)]
  · show (s.bufs.set t (s.bufs.getD t [] ++ [((a : Int), v)])).getD u [] = _
    unfold wstepE
    by_cases e : u = t
    · subst e
      rw [if_pos rfl, if_pos rfl]
      simp [List.getD_eq_getElem?_getD, List.getElem?_set_self ht]
    · rw [if_neg (fun q => e (by have q' : (t : Int) = (u : Int) := q; omega))]
      simp only [List.getD_eq_getElem?_getD, List.getElem?_set_ne (fun q => e q.symm)]
/-- What is locked, told. -/
theorem TInv.lock (h : TInv M0 s) (t : Nat) (pc : Int) (a : Nat) (ha : a < M0.length) (hn : s.bufs.getD t [] = []) (v : Int) (ok : Bool) : TInv M0 (noteM (t : Int) (if ok then { s with mem := s.mem.set a v } else s) ⟨4, 0, pc, (a : Int), if ok then v else s.mem.getD a 0, s.mem.getD a 0, 0, ok⟩) := by
  have hmem : (memL s.evs M0).getD a 0 = s.mem.getD a 0 := by rw [← h.mem]
  have hx : EvX M0 s.evs ⟨4, (t : Int), pc, (a : Int), if ok then v else s.mem.getD a 0, s.mem.getD a 0, 0, ok⟩ := ⟨fun q => absurd (show (4 : Int) = 3 from q) (by decide), fun _ => by show waitL s.evs (t : Int) = []; rw [h.wt t, hn], fun _ => ⟨⟨by show (0 : Int) ≤ (a : Int); omega, by show (a : Int) < _; omega⟩, by show (memL s.evs M0).getD (a : Int).toNat 0 = _; rw [Int.toNat_natCast, hmem]⟩, fun q => absurd (show (4 : Int) = 8 from q) (by decide), fun q => absurd (show (4 : Int) = 1 from q) (by decide)⟩
  have hw : ∀ (b : List Ent) (u : Int) (x : Evt), x.kind = 4 → wstepE u b x = b := fun b u x hk => by
    unfold wstepE
    split
    · rw [if_neg (by omega), if_neg (by omega)]
    · rfl
  have hl : a < s.mem.length := by rw [h.mem, memL_len]; exact ha
  cases ok
  · refine h.snoc _ hx rfl ?_ (fun u => (hw _ _ _ rfl).symm)
    show s.mem = _
    unfold mstepE
    rw [if_pos (.inr rfl)]
    show s.mem = s.mem.set (a : Int).toNat (s.mem.getD a 0)
    rw [Int.toNat_natCast]
    exact List.ext_getElem? fun i => by
      rw [List.getElem?_set]
      by_cases e : a = i
      · subst e
        rw [if_pos rfl, if_pos hl, List.getD_eq_getElem?_getD, List.getElem?_eq_getElem hl]
        rfl
      · rw [if_neg e]
  · refine h.snoc _ hx rfl ?_ (fun u => (hw _ _ _ rfl).symm)
    show s.mem.set a v = _
    unfold mstepE
    rw [if_pos (.inr rfl)]
    show s.mem.set a v = s.mem.set (a : Int).toNat v
    rw [Int.toNat_natCast]
theorem see_nil {t a : Nat} (hn : s.bufs.getD t [] = []) : seeM t s a = s.mem.getD a 0 := by
  unfold seeM
  rw [hn]
  rfl
/-- A load, told. -/
theorem TInv.load (h : TInv M0 s) (t : Nat) (pc : Int) (a : Nat) (ha : a < M0.length) : TInv M0 (noteM (t : Int) s ⟨1, 0, pc, (a : Int), seeM t s a, 0, 0, false⟩) := by
  refine h.note t _ ⟨by show (1 : Int) ≠ 2; decide, by show (1 : Int) ≠ 3; decide, by show (1 : Int) ≠ 4; decide⟩ ⟨fun q => absurd (show (1 : Int) = 3 from q) (by decide), fun q => ?_, fun q => absurd (show (1 : Int) = 4 from q) (by decide), fun q => absurd (show (1 : Int) = 8 from q) (by decide), fun _ => ⟨⟨by show (0 : Int) ≤ (a : Int); omega, by show (a : Int) < _; omega⟩, ?_⟩⟩
  · have q' : (1 : Int) = 4 ∨ (1 : Int) = 5 ∨ (1 : Int) = 8 ∨ (1 : Int) = 9 ∨ (1 : Int) = 10 := q
    omega
  · show seeL (waitL s.evs (t : Int)) (memL s.evs M0) (a : Int) = seeM t s a
    rw [h.wt t, ← h.mem]
    unfold seeL seeM
    rw [Int.toNat_natCast]
/-- A note where nothing of the thread waits. -/
theorem TInv.quiet (h : TInv M0 s) (t : Nat) (x : Evt) (hn : s.bufs.getD t [] = []) (hk : x.kind = 5 ∨ x.kind = 9 ∨ x.kind = 10) : TInv M0 (noteM (t : Int) s x) :=
  h.note t x ⟨by omega, by omega, by omega⟩ ⟨fun q => absurd (show x.kind = 3 from q) (by omega), fun _ => by show waitL s.evs (t : Int) = []; rw [h.wt t, hn], fun q => absurd (show x.kind = 4 from q) (by omega), fun q => absurd (show x.kind = 8 from q) (by omega), fun q => absurd (show x.kind = 1 from q) (by omega)⟩
theorem TInv.waits (h : TInv M0 s) (t : Nat) (pc : Int) (a : Nat) (ha : a < M0.length) (hn : s.bufs.getD t [] = []) (ok : Bool) : TInv M0 (noteM (t : Int) s ⟨8, 0, pc, (a : Int), s.mem.getD a 0, 0, 0, ok⟩) :=
  h.note t _ ⟨by show (8 : Int) ≠ 2; decide, by show (8 : Int) ≠ 3; decide, by show (8 : Int) ≠ 4; decide⟩ ⟨fun q => absurd (show (8 : Int) = 3 from q) (by decide), fun _ => by show waitL s.evs (t : Int) = []; rw [h.wt t, hn], fun q => absurd (show (8 : Int) = 4 from q) (by decide), fun _ => ⟨⟨by show (0 : Int) ≤ (a : Int); omega, by show (a : Int) < _; omega⟩, by show (memL s.evs M0).getD (a : Int).toNat 0 = _; rw [Int.toNat_natCast, ← h.mem]⟩, fun q => absurd (show (8 : Int) = 1 from q) (by decide)⟩
end
end Go.Proofs.YtjmnogpnjombgaaDoor
namespace Go.Proofs.YtjmnogpnjombgaaDoor
open Go.ChangeShapes Go.WideShapes Go.ChangeAt Go.RowKit Go.Deep
set_option linter.unusedVariables false
set_option maxRecDepth 100000
set_option linter.unusedSimpArgs false

section
variable {M0 : List Int} {s s' : Mst}
theorem sleepM_mem (t : Int) (s : Mst) (a : Nat) : (sleepM t s a).mem = s.mem ∧ (sleepM t s a).evs = s.evs := by
  unfold sleepM
  split <;> exact ⟨rfl, rfl⟩
theorem TInv.asks {B : MB} (hm : B.m = M0.length) (h : TInv M0 s) (t : Nat) (ht : t < s.bufs.length) (th : Th) (op : Int) (ra rc a : Nat) (ha : a < M0.length) (hk : askB op = true) (hd : DrainP op → s.bufs.getD t [] = []) : TInv M0 (asksR (tOps B t) s th op ra rc a).2 := by
  have hk' := of_decide_eq_true hk
  unfold asksR
  split
  · exact h.load t th.pc a ha
  split
  · have hst : (tOps B t).store s a (th.regs ra) = { s with bufs := s.bufs.set t (s.bufs.getD t [] ++ [((a : Int), th.regs ra)]) } := by
      show (if a < B.m then _ else s) = _
      rw [if_pos (by omega)]
    show TInv M0 (noteM (t : Int) ((tOps B t).store s a (th.regs ra)) _)
    rw [hst]
    exact h.store t ht th.pc a (th.regs ra)
  split
  · have hn := hd (by unfold DrainP; omega)
    show TInv M0 (lockS (tOps B t) s th.pc a (seeM t s a) (th.regs ra) true)
    rw [see_nil hn]
    exact h.lock t th.pc a ha hn _ true
  split
  · have hn := hd (by unfold DrainP; omega)
    show TInv M0 (lockS (tOps B t) s th.pc a (seeM t s a) ((seeM t s a + th.regs ra) % 4294967296) true)
    rw [see_nil hn]
    exact h.lock t th.pc a ha hn _ true
  split
  · have hn := hd (by unfold DrainP; omega)
    show TInv M0 (lockS (tOps B t) s th.pc a (seeM t s a) (th.regs rc) (seeM t s a == th.regs ra))
    rw [see_nil hn]
    exact h.lock t th.pc a ha hn _ _
  split
  · have hn := hd (by unfold DrainP; omega)
    unfold waitR
    split
    · show TInv M0 (sleepM (t : Int) (noteM (t : Int) s ⟨8, 0, th.pc, (a : Int), seeM t s a, 0, 0, true⟩) a)
      rw [see_nil hn]
      exact (h.waits t th.pc a ha hn true).congr (sleepM_mem _ _ a).1 (sleepM_same _ _ a).2.1 (sleepM_mem _ _ a).2
    · show TInv M0 (noteM (t : Int) s ⟨8, 0, th.pc, (a : Int), seeM t s a, 0, 0, false⟩)
      rw [see_nil hn]
      exact h.waits t th.pc a ha hn false
  · have hn := hd (by unfold DrainP; omega)
    have h1 : TInv M0 (wakeM s a (th.regs ra)).2 := h.congr rfl rfl rfl
    exact h1.quiet t _ hn (.inr (.inl rfl))
theorem TInv.plain {B : MB} (h : TInv M0 s) (t : Nat) (th : Th) (op a b c : Nat) (k addr : Int) (ho : ∀ b ∈ s.bufs, ∀ e ∈ b, 0 ≤ e.1 ∧ e.1 < (M0.length : Int)) (hd : op = 18 ∨ op = 25 → s.bufs.getD t [] = []) : TInv M0 (plainR (tOps B t) s th op a b c k addr).2 := by
  unfold plainR
  split
  · exact h
  split
  · exact h
  split
  · exact h.quiet t _ (hd (by omega)) (.inl rfl)
  split
  · exact h.other t _ (.inl rfl)
  split
  · exact h.other t _ (.inr (.inl rfl))
  split
  · exact (h.remote ho).quiet t _ (nil_remote (hd (by omega))) (.inr (.inr rfl))
  split
  · exact h
  · exact h
theorem addrF_rv (t : Th) (ht : RegsOk t) (i : Ins) (hk : RV i.k) : RV (addrF t i) := by
  unfold addrF
  split
  · exact RV.alu 3 (ht _)
  · exact hk
theorem TInv.step {B : MB} (hm : B.m = M0.length) (h : TInv M0 s) (t : Nat) (ht : t < s.bufs.length) (ho : ∀ b ∈ s.bufs, ∀ e ∈ b, 0 ≤ e.1 ∧ e.1 < (M0.length : Int)) (th : Th) (hth : RegsOk th) (c : Cd) (hc : c.Ok) : TInv M0 (stepR (tOps B t) s th c).2 := by
  unfold stepR
  split
  · exact h
  split
  · exact h.other t _ (.inr (.inr (.inr (.inl rfl))))
  split
  · exact h.other t _ (.inr (.inr (.inr (.inr rfl))))
  rename_i h0 hpc hr
  split
  · exact h.other t _ (.inr (.inr (.inr (.inr rfl))))
  rename_i hbig
  have hins := hc.ins th.pc.toNat (by omega)
  have hrv := addrF_rv th hth (c.F th.pc.toNat) ⟨hins.k0, hins.k1⟩
  unfold insR
  split
  · exact h.flush t ho
  rename_i hdr
  have hd : DrainP (c.F th.pc.toNat).op → s.bufs.getD t [] = [] := fun hp => by
    cases he : (tOps B t).empty s with
    | false => exact absurd ⟨hp, he⟩ hdr
    | true => exact List.length_eq_zero_iff.1 (of_decide_eq_true (show decide ((s.bufs.getD t []).length = 0) = true from he))
  split
  · exact h.flush t ho
  split
  · exact h.other t _ (.inr (.inr (.inr (.inl rfl))))
  split
  · exact h
  split
  · rename_i hk
    refine h.asks hm t ht th _ _ _ _ ?_ hk hd
    have hlt : addrF th (c.F th.pc.toNat) < ((tOps B t).size : Int) := by
      by_cases q : ((tOps B t).size : Int) ≤ addrF th (c.F th.pc.toNat)
      · exact absurd ⟨hk, q⟩ hbig
      · omega
    have hs : ((tOps B t).size : Int) = (M0.length : Int) := by show (B.m : Int) = _; rw [hm]
    rw [hs] at hlt
    have := hrv.1
    omega
  · skip
    exact h.plain t th _ _ _ _ _ _ ho (fun q => hd (by unfold DrainP; omega))
theorem TInv.pick {B : MB} (hMB : MBok B) (hm : B.m = M0.length) (h : TInv M0 s) (ho : TOk B s) (x : Int × Int) : TInv M0 (tPick B s x) := by
  have hin : ∀ b ∈ s.bufs, ∀ e ∈ b, 0 ≤ e.1 ∧ e.1 < (M0.length : Int) := fun b hb e he => by
    have := (ho.ok.buf b hb e he).1
    rw [hm] at this
    exact this
  have h1 := ho.bl
  have h2 := ho.ok.nt
  unfold tPick
  split
  · exact h
  rename_i hx
  split
  · unfold tStep
    have ht : x.2.toNat < B.codes.length := by omega
    exact (h.step hm x.2.toNat (by omega) hin (s.ths.getD x.2.toNat tha) (ho.ok.getTh _) (B.codes.getD x.2.toNat cdd) (hMB.cods _ (getD_mem ht))).congr rfl rfl rfl
  split
  · exact h.flush _ hin
  split
  · unfold rouseM
    split
    · refine TInv.other ?_ _ _ (.inr (.inr (.inl rfl)))
      exact h.congr rfl rfl rfl
    · exact h
  · exact h
end
theorem tinv_run {B : MB} (hMB : MBok B) {M0 : List Int} (hm : B.m = M0.length) : ∀ (l : List (Int × Int)) (s : Mst), TInv M0 s → TOk B s → TInv M0 (tRun B s l)
  | [], s, h, _ => h
  | x :: l, s, h, ho => tinv_run hMB hm l _ (h.pick hMB hm ho x) (tPick_ok hMB ho x)
theorem tinv_start (p : Pg) : TInv ((List.range p.m).map p.Z) (t0 p) where
  mem := rfl
  wt := fun t => by
    show ([] : List Ent) = (List.replicate p.n ([] : List Ent)).getD t []
    rw [List.getD_eq_getElem?_getD, List.getElem?_replicate]
    split <;> rfl
  ev := fun i hi => absurd hi (by show ¬ i < 0; omega)
end Go.Proofs.YtjmnogpnjombgaaDoor
