/- The machines in plain Lean: what their ports do, what a pick does, what picks do one behind the other. -/
import Derived.Test.YtjmnogpnjombgaaDoorMInv
namespace Go.Proofs.YtjmnogpnjombgaaDoor
open Go.ChangeShapes Go.WideShapes Go.ChangeAt Go.RowKit Go.Deep
set_option linter.unusedVariables false
set_option maxRecDepth 100000
set_option linter.unusedSimpArgs false

/-- The youngest entry's value of an address; is there one? -/
def fnB : List Ent → Int → Int × Bool
  | [], _ => (0, false)
  | x :: l, a => if (fnB l a).2 = true then fnB l a else if x.1 = a then (x.2, true) else (0, false)
theorem fnB_spec (l : List Ent) (a : Int) : FindP l a (fnB l a).1 (fnB l a).2 := by
  induction l with
  | nil => exact .miss fun j hj => absurd hj (by simp)
  | cons x l ih =>
    unfold fnB
    cases hb : (fnB l a).2 with
    | true =>
      rw [if_pos rfl, hb]
      rw [hb] at ih
      obtain ⟨i, hi, h1, h2, hv⟩ : ∃ i, i < l.length ∧ (l.getD i (0, 0)).1 = a ∧ (∀ j, i < j → j < l.length → (l.getD j (0, 0)).1 ≠ a) ∧ (fnB l a).1 = (l.getD i (0, 0)).2 := by
        generalize (fnB l a).1 = v at ih ⊢
        cases ih with
        | hit i hi h1 h2 => exact ⟨i, hi, h1, h2, rfl⟩
      rw [hv]
      refine FindP.hit (l := x :: l) (i + 1) (by simp; omega) (by simpa using h1) (fun j h3 h4 => ?_)
      obtain ⟨k, rfl⟩ : ∃ k, j = k + 1 := ⟨j - 1, by omega⟩
      have := h2 k (by omega) (by simpa using h4)
      simpa using this
    | false =>
      rw [hb] at ih
      have hm : ∀ j, j < l.length → (l.getD j (0, 0)).1 ≠ a := by
        generalize (fnB l a).1 = v at ih
        cases ih with
        | miss h => exact h
      rw [if_neg (by decide)]
      by_cases hx : x.1 = a
      · rw [if_pos hx]
        refine FindP.hit (l := x :: l) 0 (by simp) hx (fun j h3 h4 => ?_)
        obtain ⟨k, rfl⟩ : ∃ k, j = k + 1 := ⟨j - 1, by omega⟩
        have := hm k (by simpa using h4)
        simpa using this
      · rw [if_neg hx]
        refine .miss fun j hj => ?_
        rcases j with _ | k
        · exact hx
        · have := hm k (by simpa using hj)
          simpa using this
theorem fnB_snoc (l : List Ent) (x : Ent) (a : Int) : fnB (l ++ [x]) a = if x.1 = a then (x.2, true) else fnB l a := by
  induction l with
  | nil =>
    show (if (fnB [] a).2 = true then fnB [] a else if x.1 = a then (x.2, true) else (0, false)) = _
    rw [if_neg (show ¬ (fnB [] a).2 = true from fun h => by cases h)]
    rfl
  | cons y l ih =>
    show (if (fnB (l ++ [x]) a).2 = true then fnB (l ++ [x]) a else if y.1 = a then (y.2, true) else (0, false)) = _
    rw [ih]
    by_cases h : x.1 = a
    · rw [if_pos h, if_pos rfl, if_pos h]
    · rw [if_neg h, if_neg h]
      rfl

/-- Who is woken runs. -/
def runT (ths : List Th) (ws : List Int) : List Th := ws.foldl (fun l w => l.set w.toNat { l.getD w.toNat tha with st := 0 }) ths
/-- A thread's oldest store comes into memory. -/
def tflush (t : Nat) (s : Mst) : Mst := match s.bufs.getD t [] with
  | [] => s
  | x :: l => { s with bufs := s.bufs.set t l, mem := s.mem.set x.1.toNat x.2, evs := s.evs ++ [⟨3, (t : Int), 0, x.1, x.2, 0, 0, false⟩] }
/-- So many of them. -/
def tflushN (t : Nat) : Nat → Mst → Mst
  | 0, s => s
  | n + 1, s => tflushN t n (tflush t s)
def tdrain (s : Mst) (t : Nat) : Mst := tflushN t (s.bufs.getD t []).length s
def tremote (s : Mst) : Mst := (List.range s.bufs.length).foldl tdrain s
def wakeM (s : Mst) (a : Nat) (v : Int) : Int × Mst := (((wk (a : Int) v.toNat s.slp).2.length : Int), { s with slp := (wk (a : Int) v.toNat s.slp).1, ths := runT s.ths (wk (a : Int) v.toNat s.slp).2 })
def sleepM (t : Int) (s : Mst) (a : Nat) : Mst := if slpE s.slp t = 0 then { s with slp := s.slp ++ [(t, (a : Int))] } else s
def noteM (t : Int) (s : Mst) (x : Evt) : Mst := { s with evs := s.evs ++ [{ x with who := t }] }
def seeM (t : Nat) (s : Mst) (a : Nat) : Int := if (fnB (s.bufs.getD t []) (a : Int)).2 = true then (fnB (s.bufs.getD t []) (a : Int)).1 else s.mem.getD a 0

/-- The port of a thread of a machine with buffers. -/
def tOps (B : MB) (t : Nat) : Ops Mst where
  size := B.m
  load := fun s a => (seeM t s a, s)
  room := fun s => decide (((s.bufs.getD t []).length : Int) < B.room)
  store := fun s a v => if a < B.m then { s with bufs := s.bufs.set t (s.bufs.getD t [] ++ [((a : Int), v)]) } else s
  empty := fun s => decide ((s.bufs.getD t []).length = 0)
  flush := tflush t
  swap := fun s a v => { s with mem := s.mem.set a v }
  sleep := sleepM (t : Int)
  wake := wakeM
  remote := tremote
  note := noteM (t : Int)
/-- The port of a machine without buffers. -/
def sOps (B : MB) : Ops Mst where
  size := B.m
  load := fun s a => (s.mem.getD a 0, s)
  room := fun _ => true
  store := fun s a v => { s with mem := s.mem.set a v }
  empty := fun _ => true
  flush := fun s => s
  swap := fun s a v => { s with mem := s.mem.set a v }
  sleep := fun s a => sleepM s.who s a
  wake := wakeM
  remote := fun s => s
  note := fun s x => noteM s.who s x
/-- Somebody is roused. -/
def rouseM (t : Nat) (s : Mst) : Mst := if fnd s.slp (t : Int) < s.slp.length then noteM (t : Int) { s with slp := s.slp.eraseIdx (fnd s.slp (t : Int)), ths := s.ths.set t { s.ths.getD t tha with st := 0 } } ⟨11, 0, 0, 0, 0, 0, 0, false⟩ else s
/-! ### Bounds -/
def tot (l : List (List Ent)) : Nat := (l.map List.length).sum
/-- There is room for so much more; what sleeps and what is buffered is right. -/
structure mCan (B : MB) (n : Nat) (s : Mst) : Prop where
  evs : s.evs.length + tot s.bufs + n ≤ 1000000000
  slp : s.slp.length + n ≤ 10000
  who : ∀ x ∈ s.slp, 0 ≤ x.1 ∧ x.1 < (s.ths.length : Int)
  buf : ∀ b ∈ s.bufs, ∀ e ∈ b, 0 ≤ e.1 ∧ e.1 < (B.m : Int)
  t8 : s.ths.length ≤ 8
theorem mCan.less {B : MB} {n : Nat} {s : Mst} (h : mCan B (n + 1) s) : mCan B n s := ⟨by have := h.evs; omega, by have := h.slp; omega, h.who, h.buf, h.t8⟩
theorem tot_set (l : List (List Ent)) (t : Nat) (x : List Ent) (h : t < l.length) : tot (l.set t x) + (l.getD t []).length = tot l + x.length := by
  induction l generalizing t with
  | nil => exact absurd h (by simp)
  | cons y l ih =>
    rcases t with _ | t
    · simp [tot]; omega
    · have := ih t (by simpa using h)
      simp [tot] at this ⊢
      omega
theorem getD_nil_of_ge {α : Type} (l : List α) (t : Nat) (d : α) (h : l.length ≤ t) : l.getD t d = d := by
  simp [List.getD_eq_getElem?_getD, List.getElem?_eq_none h]
theorem mem_set {α : Type} {l : List α} {t : Nat} {x y : α} (h : y ∈ l.set t x) : y ∈ l ∨ y = x := by
  rcases List.mem_or_eq_of_mem_set h with h | h
  · exact .inl h
  · exact .inr h
theorem mem_getD {l : List (List Ent)} {t : Nat} {e : Ent} (h : e ∈ l.getD t []) : ∃ b ∈ l, e ∈ b := by
  rcases Nat.lt_or_ge t l.length with h1 | h1
  · exact ⟨_, getD_mem h1, h⟩
  · rw [getD_nil_of_ge l t [] h1] at h; cases h
theorem runT_len (ths : List Th) (ws : List Int) : (runT ths ws).length = ths.length := by
  unfold runT
  induction ws generalizing ths with
  | nil => rfl
  | cons w ws ih => rw [List.foldl_cons, ih, List.length_set]
theorem tflush_cons {t : Nat} {s : Mst} {x : Ent} {l : List Ent} (h : s.bufs.getD t [] = x :: l) :
    tflush t s = { s with bufs := s.bufs.set t l, mem := s.mem.set x.1.toNat x.2, evs := s.evs ++ [⟨3, (t : Int), 0, x.1, x.2, 0, 0, false⟩] } := by
  unfold tflush; rw [h]
theorem tflush_nil {t : Nat} {s : Mst} (h : s.bufs.getD t [] = []) : tflush t s = s := by
  unfold tflush; rw [h]
/-- What a flush leaves as it was. -/
theorem tflush_same (t : Nat) (s : Mst) : (tflush t s).ths = s.ths ∧ (tflush t s).slp = s.slp ∧ (tflush t s).who = s.who ∧ (tflush t s).bufs.length = s.bufs.length ∧ (tflush t s).mem.length = s.mem.length := by
  cases h : s.bufs.getD t [] with
  | nil => rw [tflush_nil h]; exact ⟨rfl, rfl, rfl, rfl, rfl⟩
  | cons x l => rw [tflush_cons h]; exact ⟨rfl, rfl, rfl, by simp, by simp⟩
theorem mCan.flush {B : MB} {n : Nat} {s : Mst} (h : mCan B n s) (t : Nat) : mCan B n (tflush t s) := by
  cases hb : s.bufs.getD t [] with
  | nil => rw [tflush_nil hb]; exact h
  | cons x l =>
    have ht : t < s.bufs.length := by
      rcases Nat.lt_or_ge t s.bufs.length with h1 | h1
      · exact h1
      · rw [getD_nil_of_ge _ _ _ h1] at hb; cases hb
    rw [tflush_cons hb]
    refine ⟨?_, h.slp, h.who, fun b hb' e he => ?_, h.t8⟩
    · have h1 := h.evs
      have h2 := tot_set s.bufs t l ht
      rw [hb] at h2
      simp only [List.length_cons] at h2
      simp only [List.length_append, List.length_cons, List.length_nil]
      omega
    · rcases mem_set hb' with h1 | rfl
      · exact h.buf b h1 e he
      · obtain ⟨b, h1, h2⟩ := mem_getD (l := s.bufs) (t := t) (e := e) (by rw [hb]; exact List.mem_cons_of_mem _ he)
        exact h.buf b h1 e h2
theorem mCan.flushN {B : MB} {n : Nat} (t : Nat) : ∀ (k : Nat) {s : Mst}, mCan B n s → mCan B n (tflushN t k s)
  | 0, _, h => h
  | k + 1, _, h => mCan.flushN t k (h.flush t)
theorem mCan.remote {B : MB} {n : Nat} {s : Mst} (h : mCan B n s) : mCan B n (tremote s) := by
  unfold tremote
  generalize List.range s.bufs.length = l
  induction l generalizing s with
  | nil => exact h
  | cons t l ih => exact ih (h.flushN t _)
theorem wk_sub' (addr : Int) (n : Nat) : ∀ (l : List Slp) (s : List Slp × List Int), (∀ x ∈ (l.foldl (wstep addr n) s).1, x ∈ s.1 ∨ x ∈ l) ∧ ∀ w ∈ (l.foldl (wstep addr n) s).2, w ∈ s.2 ∨ ∃ x ∈ l, x.1 = w
  | [], s => ⟨fun x h => .inl h, fun w h => .inl h⟩
  | y :: l, s => by
    obtain ⟨h1, h2⟩ := wk_sub' addr n l (wstep addr n s y)
    rw [List.foldl_cons]
    refine ⟨fun x hx => ?_, fun w hw => ?_⟩
    · rcases h1 x hx with h | h
      · unfold wstep at h
        split at h
        · exact .inl h
        · rcases List.mem_append.1 h with h | h
          · exact .inl h
          · rw [List.mem_singleton.1 h]; exact .inr (by simp)
      · exact .inr (by simp [h])
    · rcases h2 w hw with h | ⟨x, h3, h4⟩
      · unfold wstep at h
        split at h
        · rcases List.mem_append.1 h with h | h
          · exact .inl h
          · exact .inr ⟨y, by simp, (List.mem_singleton.1 h).symm⟩
        · exact .inl h
      · exact .inr ⟨x, by simp [h3], h4⟩
theorem wk_sub (addr : Int) (n : Nat) (l : List Slp) : (∀ x ∈ (wk addr n l).1, x ∈ l) ∧ ∀ w ∈ (wk addr n l).2, ∃ x ∈ l, x.1 = w := by
  obtain ⟨h1, h2⟩ := wk_sub' addr n l ([], [])
  exact ⟨fun x hx => (h1 x hx).elim (fun h => by cases h) id, fun w hw => (h2 w hw).elim (fun h => by cases h) id⟩
theorem mCan.wake {B : MB} {n : Nat} {s : Mst} (h : mCan B n s) (a : Nat) (v : Int) : mCan B n (wakeM s a v).2 := by
  have hl := wk_len (a : Int) v.toNat s.slp
  refine ⟨h.evs, ?_, fun x hx => ?_, h.buf, ?_⟩
  · show (wk (a : Int) v.toNat s.slp).1.length + n ≤ 10000
    have := h.slp
    omega
  · have := h.who x ((wk_sub (a : Int) v.toNat s.slp).1 x hx)
    show _ ∧ x.1 < ((runT s.ths _).length : Int)
    rw [runT_len]
    exact this
  · show (runT s.ths _).length ≤ 8
    rw [runT_len]
    exact h.t8
theorem mCan.sleep {B : MB} {n : Nat} {s : Mst} (h : mCan B (n + 1) s) (t : Int) (h0 : 0 ≤ t) (h1 : t < (s.ths.length : Int)) (a : Nat) : mCan B n (sleepM t s a) := by
  unfold sleepM
  split
  · refine ⟨by have := h.evs; show s.evs.length + tot s.bufs + n ≤ _; omega, by have := h.slp; simp; omega, fun x hx => ?_, h.buf, h.t8⟩
    rcases List.mem_append.1 hx with hx | hx
    · exact h.who x hx
    · rw [List.mem_singleton.1 hx]; exact ⟨h0, h1⟩
  · exact h.less
theorem mCan.note {B : MB} {n : Nat} {s : Mst} (h : mCan B (n + 1) s) (t : Int) (x : Evt) : mCan B n (noteM t s x) :=
  ⟨by have := h.evs; simp [noteM]; omega, by have := h.slp; simp [noteM]; omega, h.who, h.buf, h.t8⟩
theorem mCan.store {B : MB} {n : Nat} {s : Mst} (h : mCan B (n + 1) s) (t : Nat) (a : Nat) (v : Int) : mCan B n ((tOps B t).store s a v) := by
  show mCan B n (if a < B.m then _ else s)
  split
  case isFalse => exact h.less
  rename_i ha
  rcases Nat.lt_or_ge t s.bufs.length with ht | ht
  · refine ⟨?_, by have := h.slp; show s.slp.length + n ≤ _; omega, h.who, fun b hb e he => ?_, h.t8⟩
    · have h1 := h.evs
      have h2 := tot_set s.bufs t (s.bufs.getD t [] ++ [((a : Int), v)]) ht
      simp only [List.length_append, List.length_cons, List.length_nil] at h2
      show s.evs.length + tot (s.bufs.set t _) + n ≤ _
      omega
    · rcases mem_set hb with h1 | rfl
      · exact h.buf b h1 e he
      · rcases List.mem_append.1 he with he | he
        · obtain ⟨b, h1, h2⟩ := mem_getD he
          exact h.buf b h1 e h2
        · rw [List.mem_singleton.1 he]
          exact ⟨by show (0 : Int) ≤ (a : Int); omega, by show (a : Int) < (B.m : Int); omega⟩
  · rw [List.set_eq_of_length_le ht]
    exact h.less
/-- As a thread's port asks it. -/
structure tCan (B : MB) (t n : Nat) (s : Mst) : Prop where
  can : mCan B n s
  lt : t < s.ths.length
  bl : s.bufs.length = s.ths.length
structure sCan (B : MB) (n : Nat) (s : Mst) : Prop where
  can : mCan B n s
  lo : 0 ≤ s.who
  hi : s.who < (s.ths.length : Int)
theorem tremote_same (s : Mst) : (tremote s).ths = s.ths ∧ (tremote s).slp = s.slp ∧ (tremote s).who = s.who ∧ (tremote s).bufs.length = s.bufs.length ∧ (tremote s).mem.length = s.mem.length := by
  have hN : ∀ t k (s : Mst), (tflushN t k s).ths = s.ths ∧ (tflushN t k s).slp = s.slp ∧ (tflushN t k s).who = s.who ∧ (tflushN t k s).bufs.length = s.bufs.length ∧ (tflushN t k s).mem.length = s.mem.length := by
    intro t k
    induction k with
    | zero => exact fun s => ⟨rfl, rfl, rfl, rfl, rfl⟩
    | succ k ih =>
      intro s
      obtain ⟨a1, a2, a3, a4, a5⟩ := ih (tflush t s)
      obtain ⟨b1, b2, b3, b4, b5⟩ := tflush_same t s
      exact ⟨a1.trans b1, a2.trans b2, a3.trans b3, a4.trans b4, a5.trans b5⟩
  unfold tremote
  generalize List.range s.bufs.length = l
  induction l generalizing s with
  | nil => exact ⟨rfl, rfl, rfl, rfl, rfl⟩
  | cons t l ih =>
    obtain ⟨a1, a2, a3, a4, a5⟩ := ih (tdrain s t)
    obtain ⟨b1, b2, b3, b4, b5⟩ := hN t (s.bufs.getD t []).length s
    exact ⟨a1.trans b1, a2.trans b2, a3.trans b3, a4.trans b4, a5.trans b5⟩
theorem sleepM_same (t : Int) (s : Mst) (a : Nat) : (sleepM t s a).ths = s.ths ∧ (sleepM t s a).bufs = s.bufs ∧ (sleepM t s a).who = s.who := by
  unfold sleepM
  split <;> exact ⟨rfl, rfl, rfl⟩
theorem tstore_same (B : MB) (t : Nat) (s : Mst) (a : Nat) (v : Int) : ((tOps B t).store s a v).ths = s.ths ∧ ((tOps B t).store s a v).bufs.length = s.bufs.length := by
  show (if a < B.m then _ else s : Mst).ths = _ ∧ (if a < B.m then _ else s : Mst).bufs.length = _
  split
  · exact ⟨rfl, by simp⟩
  · exact ⟨rfl, rfl⟩
section
variable {B : MB} {t n : Nat} {s : Mst}
theorem tCan.less (h : tCan B t (n + 1) s) : tCan B t n s := ⟨h.can.less, h.lt, h.bl⟩
theorem tCan.store (h : tCan B t (n + 1) s) (a : Nat) (v : Int) : tCan B t n ((tOps B t).store s a v) :=
  ⟨h.can.store t a v, by rw [(tstore_same B t s a v).1]; exact h.lt, by rw [(tstore_same B t s a v).1, (tstore_same B t s a v).2]; exact h.bl⟩
theorem tCan.flush (h : tCan B t (n + 1) s) : tCan B t n (tflush t s) :=
  ⟨h.less.can.flush t, by rw [(tflush_same t s).1]; exact h.lt, by rw [(tflush_same t s).1, (tflush_same t s).2.2.2.1]; exact h.bl⟩
theorem tCan.swap (h : tCan B t (n + 1) s) (a : Nat) (v : Int) : tCan B t n { s with mem := s.mem.set a v } := ⟨⟨h.less.can.evs, h.less.can.slp, h.can.who, h.can.buf, h.can.t8⟩, h.lt, h.bl⟩
theorem tCan.sleep (h : tCan B t (n + 1) s) (a : Nat) : tCan B t n (sleepM (t : Int) s a) :=
  ⟨h.can.sleep (t : Int) (by omega) (by have := h.lt; omega) a, by rw [(sleepM_same (t : Int) s a).1]; exact h.lt, by rw [(sleepM_same (t : Int) s a).1, (sleepM_same (t : Int) s a).2.1]; exact h.bl⟩
theorem tCan.wake (h : tCan B t (n + 1) s) (a : Nat) (v : Int) : tCan B t n (wakeM s a v).2 :=
  ⟨h.less.can.wake a v, by show t < (runT s.ths _).length; rw [runT_len]; exact h.lt, by show s.bufs.length = (runT s.ths _).length; rw [runT_len]; exact h.bl⟩
theorem tCan.remote (h : tCan B t (n + 1) s) : tCan B t n (tremote s) :=
  ⟨h.less.can.remote, by rw [(tremote_same s).1]; exact h.lt, by rw [(tremote_same s).1, (tremote_same s).2.2.2.1]; exact h.bl⟩
theorem tCan.note (h : tCan B t (n + 1) s) (x : Evt) : tCan B t n (noteM (t : Int) s x) := ⟨h.can.note (t : Int) x, h.lt, h.bl⟩
theorem sCan.less (h : sCan B (n + 1) s) : sCan B n s := ⟨h.can.less, h.lo, h.hi⟩
theorem sCan.set (h : sCan B (n + 1) s) (a : Nat) (v : Int) : sCan B n { s with mem := s.mem.set a v } := ⟨⟨h.less.can.evs, h.less.can.slp, h.can.who, h.can.buf, h.can.t8⟩, h.lo, h.hi⟩
theorem sCan.sleep (h : sCan B (n + 1) s) (a : Nat) : sCan B n (sleepM s.who s a) :=
  ⟨h.can.sleep s.who h.lo h.hi a, by rw [(sleepM_same s.who s a).2.2]; exact h.lo, by rw [(sleepM_same s.who s a).2.2, (sleepM_same s.who s a).1]; exact h.hi⟩
theorem sCan.wake (h : sCan B (n + 1) s) (a : Nat) (v : Int) : sCan B n (wakeM s a v).2 :=
  ⟨h.less.can.wake a v, h.lo, by show s.who < ((runT s.ths _).length : Int); rw [runT_len]; exact h.hi⟩
theorem sCan.note (h : sCan B (n + 1) s) (x : Evt) : sCan B n (noteM s.who s x) := ⟨h.can.note s.who x, h.lo, h.hi⟩
end
end Go.Proofs.YtjmnogpnjombgaaDoor
