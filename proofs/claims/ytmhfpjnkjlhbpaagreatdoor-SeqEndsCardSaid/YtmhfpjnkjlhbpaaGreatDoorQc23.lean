/- Machines of threads (plain): codes of rounds; what holds whatever is picked. once (plain): the code of a thread that enters what is done once, and does it if it is told so; what holds whatever the turns. once (plain): whatever is picked, what holds of what is done once holds. barrier (plain): the code of a thread that enters; what holds whatever the turns. rw (plain): the code of threads that write and read; what holds whatever the turns. -/
import Derived.Test.YtmhfpjnkjlhbpaaGreatDoorQc22
namespace Go.Proofs.YtmhfpjnkjlhbpaaGreatDoor
open Go.ChangeShapes Go.WideShapes Go.ChangeAt Go.RowKit Go.Deep
set_option linter.unusedVariables false
set_option maxRecDepth 100000
set_option linter.unusedSimpArgs false
structure Coded (B : MB) (t rd : Nat) (bs : Nat -> Nat) (code : Nat -> List Op) : Prop where
  len : (B.codes.getD t cdd).len = bs rd
  next : ∀ n, n < rd -> bs (n + 1) = bs n + (code n).length
  F : ∀ n, n < rd -> ∀ o op, (code n)[o]? = some op -> (B.codes.getD t cdd).F (bs n + o) = op.ins
  ok : ∀ n, n < rd -> ∀ op ∈ code n, rightB op.ins (B.codes.getD t cdd).len = true /\ ∀ x, op.word = some x -> x < B.m
theorem bs_mono {rd : Nat} {bs : Nat -> Nat} {ln : Nat -> Nat} (h : ∀ n, n < rd -> bs (n + 1) = bs n + ln n) {n m : Nat} (hn : n <= m) (hm : m <= rd) : bs n <= bs m := by
  induction m with
  | zero => rw [Nat.le_zero.1 hn]; exact Nat.le_refl _
  | succ m ih =>
    rcases Nat.lt_or_ge n (m + 1) with c | c
    · have := ih (by omega) (by omega)
      rw [h m (by omega)]
      omega
    · rw [Nat.le_antisymm hn c]; exact Nat.le_refl _
theorem Coded.lt {B : MB} {t rd : Nat} {bs : Nat -> Nat} {code : Nat -> List Op} (h : Coded B t rd bs code) {n o : Nat} (hn : n < rd) (ho : o < (code n).length) : bs n + o < (B.codes.getD t cdd).len := by
  rw [h.len]
  have h1 := h.next n hn
  have h2 := bs_mono h.next (n := n + 1) (m := rd) (by omega) (Nat.le_refl _)
  omega
structure Wf (B : MB) (s : Mst) : Prop where
  ok : TOk B s
  m : s.mem.length = B.m
  room : 1 <= B.room
section
variable {B : MB} {s : Mst}
theorem Wf.th (h : Wf B s) {t : Nat} (ht : t < B.codes.length) : t < s.ths.length := by rw [h.ok.ok.nt]; exact ht
theorem Wf.bf (h : Wf B s) {t : Nat} (ht : t < B.codes.length) : t < s.bufs.length := by rw [h.ok.bl]; exact ht
theorem Coded.at_ {t rd : Nat} {bs : Nat -> Nat} {code : Nat -> List Op} (h : Coded B t rd bs code) (hw : Wf B s) (ht : t < B.codes.length) {n o : Nat} {r : Nat -> Int} {op : Op} (hn : n < rd) (hop : (code n)[o]? = some op) (hth : thM s t = ⟨((bs n + o : Nat) : Int), r, 0⟩) : At B s t (bs n + o) r op := by
  have ho := (List.getElem?_eq_some_iff.1 hop).1
  have hm : op ∈ code n := by
    obtain ⟨h1, h2⟩ := List.getElem?_eq_some_iff.1 hop
    rw [<- h2]; exact List.getElem_mem h1
  exact ⟨hth, h.lt hn ho, h.F n hn o op hop, (h.ok n hn op hm).1, hw.th ht, hw.bf ht, hw.m, (h.ok n hn op hm).2, hw.room, fun b hb e he => (hw.ok.ok.buf b hb e he).1, fun x hx => hw.ok.ok.slp.lo x hx⟩
theorem insR_mem (t : Nat) (th : Th) (i : Ins) : (insR (tOps B t) s th i).2.mem.length = s.mem.length := by
  have hf : ∀ (t : Nat) (s : Mst), (tflush t s).mem.length = s.mem.length := fun t s => (tflush_same t s).2.2.2.2
  have hn : ∀ (s : Mst) (x : Evt), (noteM (t : Int) s x).mem.length = s.mem.length := fun _ _ => rfl
  have hfn : ∀ (t n : Nat) (s : Mst), (tflushN t n s).mem.length = s.mem.length := fun t n => by
    induction n with
    | zero => exact fun _ => rfl
    | succ n ih => exact fun s => (ih _).trans (hf t s)
  have hrem : ∀ (s : Mst), (tremote s).mem.length = s.mem.length := fun s => by
    unfold tremote
    generalize List.range s.bufs.length = l
    induction l generalizing s with
    | nil => rfl
    | cons a l ih => exact (ih _).trans (hfn a _ _)
  have hlock : ∀ (s : Mst) (pc : Int) (m : Nat) (old v : Int) (ok : Bool), (lockS (tOps B t) s pc m old v ok).mem.length = s.mem.length := fun s pc m old v ok => by
    unfold lockS
    cases ok
    · rfl
    · show (s.mem.set m v).length = _; rw [List.length_set]
  have hst : ∀ (a : Nat) (v : Int), ((tOps B t).store s a v).mem.length = s.mem.length := fun a v => by
    show (if a < B.m then ({ s with bufs := _ } : Mst) else s).mem.length = _
    split <;> rfl
  have hsl : ∀ (s : Mst) (a : Nat), ((tOps B t).sleep s a).mem.length = s.mem.length := fun s a => by
    show (sleepM (t : Int) s a).mem.length = _
    unfold sleepM
    split <;> rfl
  unfold insR
  split
  · exact hf _ _
  split
  · exact hf _ _
  split
  · rfl
  split
  · rfl
  split
  · show (asksR (tOps B t) s th _ _ _ _).2.mem.length = _
    unfold asksR
    split
    · rfl
    split
    · exact hst _ _
    split
    · exact hlock _ _ _ _ _ _
    split
    · exact hlock _ _ _ _ _ _
    split
    · exact hlock _ _ _ _ _ _
    split
    · unfold waitR
      split
      · exact hsl _ _
      · rfl
    · rfl
  · show (plainR (tOps B t) s th _ _ _ _ _ _).2.mem.length = _
    unfold plainR
    repeat' split
    all_goals first
      | rfl
      | exact hrem _
theorem tPick_mem (x : Int × Int) : (tPick B s x).mem.length = s.mem.length := by
  unfold tPick
  split
  · rfl
  split
  · show (stepR (tOps B x.2.toNat) s _ _).2.mem.length = _
    unfold stepR
    repeat' split
    all_goals first
      | rfl
      | exact insR_mem _ _ _
  split
  · exact (tflush_same _ _).2.2.2.2
  split
  · unfold rouseM
    split <;> rfl
  · rfl
theorem Wf.pick (h : Wf B s) (hB : MBok B) (x : Int × Int) : Wf B (tPick B s x) := ⟨tPick_ok hB h.ok x, (tPick_mem x).trans h.m, h.room⟩
end
/-! ### counting marks -/
def isM (k : Int) (x : Evt) : Bool := x.kind == 7 && x.k == k
def isMV (k u : Int) (x : Evt) : Bool := x.kind == 7 && x.k == k && x.value == u
def cntE (f : Evt -> Bool) (l : List Evt) : Nat := (l.filter f).length
inductive Ph
  | free | busy (u : Nat) | over
def S1 (m : Int) (t : Nat) (b : List Ent) : Prop := (b = [(17, (t : Int) + 1)] /\ m = 0) ∨ (b = [] /\ m = (t : Int) + 1)
def S2 (m : Int) (t : Nat) (b : List Ent) : Prop := (b = [(17, (t : Int) + 1), (17, 0)] /\ m = 0) ∨ (b = [(17, 0)] /\ m = (t : Int) + 1) ∨ (b = [] /\ m = 0)
def oA (g : Ph) (m : Int) (e5 e2 : Nat) (t : Nat) (r : Nat -> Int) (b : List Ent) : Nat -> Prop
  | 0 => g ≠ .busy t /\ b = []
  | 1 => g ≠ .busy t /\ b = []
  | 2 => g ≠ .busy t /\ b = [] /\ r 4 ≠ ((t : Int) + 1)
  | 3 => g ≠ .busy t /\ b = [] /\ r 4 ≠ ((t : Int) + 1) /\ r 5 = ((t : Int) + 1)
  | 4 => g ≠ .busy t /\ b = [] /\ r 6 = 0 /\ r 5 = ((t : Int) + 1)
  | 7 => g ≠ .busy t /\ b = [] /\ r 5 = ((t : Int) + 1)
  | 8 => g ≠ .busy t /\ b = [] /\ r 5 = ((t : Int) + 1) /\ (r 4 = 2 -> e2 = 1)
  | 9 => g ≠ .busy t /\ b = [] /\ r 5 = ((t : Int) + 1) /\ r 6 = 2 /\ (r 4 = 2 -> e2 = 1)
  | 10 => g ≠ .busy t /\ b = [] /\ r 5 = ((t : Int) + 1) /\ (r 6 ≠ 0 -> e2 = 1)
  | 11 => g ≠ .busy t /\ b = [] /\ r 5 = ((t : Int) + 1)
  | 12 => g ≠ .busy t /\ b = [] /\ r 5 = ((t : Int) + 1) /\ r 4 = 0
  | 13 => g ≠ .busy t /\ b = [] /\ r 5 = ((t : Int) + 1) /\ r 4 = 0 /\ r 6 = 1
  | 14 => (g ≠ .busy t /\ b = [] /\ r 4 ≠ 0 /\ r 5 = ((t : Int) + 1)) ∨ (g = .busy t /\ b = [] /\ r 4 = 0 /\ r 5 = ((t : Int) + 1) /\ m = 0 /\ e5 = 0 /\ e2 = 0)
  | 15 => g ≠ .busy t /\ b = [] /\ r 5 = ((t : Int) + 1)
  | 16 => g ≠ .busy t /\ b = [] /\ r 5 = ((t : Int) + 1)
  | 17 => g ≠ .busy t /\ b = [] /\ r 5 = ((t : Int) + 1)
  | 18 => g ≠ .busy t /\ b = [] /\ r 5 = ((t : Int) + 1)
  | 19 => g ≠ .busy t /\ b = [] /\ r 5 = ((t : Int) + 1)
  | 20 => g = .busy t /\ b = [] /\ r 5 = ((t : Int) + 1) /\ m = 0 /\ e5 = 0 /\ e2 = 0
  | 21 => g = .busy t /\ S1 m t b /\ e5 = 0 /\ e2 = 0
  | 22 => g = .busy t /\ S1 m t b /\ e5 = 0 /\ e2 = 0 /\ r 7 = 5
  | 23 => g ≠ .busy t /\ b = [] /\ e2 = 1
  | 24 => (g ≠ .busy t /\ b = [] /\ e2 = 1 /\ r 7 = 0) ∨ (g = .busy t /\ S1 m t b /\ e5 = 0 /\ e2 = 0 /\ r 7 = 5)
  | 25 => (g ≠ .busy t /\ b = [] /\ r 7 = 0) ∨ (g = .busy t /\ S1 m t b /\ e5 = 1 /\ e2 = 0 /\ r 7 = 5)
  | 26 => g = .busy t /\ S1 m t b /\ e5 = 1 /\ e2 = 0
  | 27 => g = .busy t /\ S1 m t b /\ e5 = 1 /\ e2 = 1
  | 28 => g = .busy t /\ S1 m t b /\ e5 = 1 /\ e2 = 1 /\ r 4 = ((t : Int) + 1)
  | 29 => g = .busy t /\ S1 m t b /\ e5 = 1 /\ e2 = 1 /\ r 4 = ((t : Int) + 1) /\ r 5 = ((t : Int) + 1)
  | 30 => g = .busy t /\ S1 m t b /\ e5 = 1 /\ e2 = 1 /\ r 6 = 1
  | 33 => g = .busy t /\ S1 m t b /\ e5 = 1 /\ e2 = 1
  | 34 => g = .busy t /\ S1 m t b /\ e5 = 1 /\ e2 = 1 /\ r 4 = 0
  | 35 => g = .busy t /\ S2 m t b /\ e5 = 1 /\ e2 = 1
  | 36 => g = .busy t /\ S2 m t b /\ e5 = 1 /\ e2 = 1 /\ r 4 = 2
  | 37 => g ≠ .busy t /\ b = []
  | 38 => g ≠ .busy t /\ b = []
  | 39 => g ≠ .busy t /\ b = []
  | 40 => g ≠ .busy t /\ b = [] /\ r 7 = 0
  | _ => False
def OLoc (g : Ph) (m : Int) (e5 e2 : Nat) (t rd : Nat) (th : Th) (b : List Ent) : Prop :=
  ∃ n o, th.pc = ((n * 41 + o : Nat) : Int) /\ ((n < rd /\ o < 41 /\ (th.st = 0 ∨ th.st = 1) /\ oA g m e5 e2 t th.regs b o) ∨ (n = rd /\ o = 0 /\ (th.st = 0 ∨ th.st = 2) /\ g ≠ .busy t /\ b = []))
def okE (l : List Evt) : Prop := ∀ (i : Nat) (x : Evt), l[i]? = some x -> x.kind = 7 -> (0 <= x.who /\ x.who < 8) /\ (x.k = 3 -> x.value = 0) /\ (x.k = 1 -> x.value ≠ 5 -> x.value = 0 /\ ∃ (j : Nat) (y : Evt), j < i /\ l[j]? = some y /\ y.kind = 7 /\ y.k = 2)
def oSh (nt : Nat) (m : Nat -> Int) (e5 e2 : Nat) : Ph -> Prop
  | .free => m 16 = 0 /\ m 17 = 0 /\ e5 = 0 /\ e2 = 0
  | .busy u => m 16 = 1 /\ u < nt
  | .over => m 16 = 2 /\ m 17 = 0 /\ e5 <= 1 /\ e2 = 1
structure OnceI (nt : Nat) (rd : Nat -> Nat) (v : Vw) (g : Ph) (e5 e2 : Nat) : Prop where
  n8 : nt <= 8
  sh : oSh nt v.mem e5 e2 g
  loc : ∀ t, t < nt -> OLoc g (v.mem 17) e5 e2 t (rd t) (v.th t) (v.bf t)
  h5 : cntE (isMV 1 5) v.evs = e5
  h2 : cntE (isM 2) v.evs = e2
  ev : okE v.evs
section
variable {nt : Nat} {rd : Nat -> Nat} {v : Vw} {g : Ph} {e5 e2 t : Nat}
theorem OLoc.run {m : Int} {rd : Nat} {th : Th} {b : List Ent} (h : OLoc g m e5 e2 t rd th b) : OLoc g m e5 e2 t rd { th with st := 0 } b := by
  obtain ⟨n, o, h1, h2⟩ := h
  exact ⟨n, o, h1, h2.imp (fun q => ⟨q.1, q.2.1, .inl rfl, q.2.2.2⟩) (fun q => ⟨q.1, q.2.1, .inl rfl, q.2.2.2⟩)⟩
theorem OnceI.run (H : OnceI nt rd v g e5 e2) (ws : List Int) : OnceI nt rd { v with th := runV ws v.th } g e5 e2 := by
  refine ⟨H.n8, H.sh, fun u hu => ?_, H.h5, H.h2, H.ev⟩
  show OLoc g (v.mem 17) e5 e2 u (rd u) (if (u : Int) ∈ ws then { v.th u with st := 0 } else v.th u) (v.bf u)
  split
  · exact (H.loc u hu).run
  · exact H.loc u hu
theorem OLoc.next {m : Int} {rd n : Nat} {th : Th} {b : List Ent} (hpc : th.pc = ((n * 41 + 41 : Nat) : Int)) (hn : n < rd) (hst : th.st = 0) (hg : g ≠ .busy t) (hb : b = []) : OLoc g m e5 e2 t rd th b := by
  refine ⟨n + 1, 0, by rw [hpc]; omega, ?_⟩
  rcases Nat.lt_or_ge (n + 1) rd with c | c
  · exact .inl ⟨c, by decide, .inl hst, hg, hb⟩
  · exact .inr ⟨by omega, rfl, .inl hst, hg, hb⟩
theorem OnceI.who (H : OnceI nt rd v g e5 e2) (ht : t < nt) : (0 : Int) <= (t : Int) /\ (t : Int) < 8 := by have := H.n8; omega
theorem updR_at (r : Nat -> Int) (a : Nat) (x : Int) : updR r a x a = x := if_pos rfl
theorem updR_ot (r : Nat -> Int) (a : Nat) (x : Int) (k : Nat) (h : k ≠ a) : updR r a x k = r k := if_neg h
theorem OnceI.two (H : OnceI nt rd v g e5 e2) (h2 : v.mem 16 = 2) : e2 = 1 := by
  cases g with
  | free => have := H.sh.1; omega
  | busy u => have := H.sh.1; omega
  | over => exact H.sh.2.2.2
theorem OLoc.bufs {m : Int} {rd : Nat} {th : Th} {b : List Ent} (h : OLoc g m e5 e2 t rd th b) (hg : g ≠ .busy t) : b = [] := by
  obtain ⟨n, o, _, h | h⟩ := h
  · have hA := h.2.2.2
    unfold oA at hA
    split at hA
    all_goals first
      | exact hA.elim
      | exact hA.2.1
      | exact absurd hA.1 hg
      | exact hA.elim (fun q => q.2.1) (fun q => absurd q.1 hg)
      | exact hA.2
  · exact h.2.2.2.2
end
theorem Th.parts {th : Th} {p : Int} {st : Int} (h1 : th.pc = p) (h2 : th.st = st) : th = ⟨p, th.regs, st⟩ := by rw [<- h1, <- h2]
/-! ### sums over the first threads -/
def sumT (W : Nat) (f : Nat -> Nat) : Nat := ((List.range W).map f).sum
theorem sumT_succ (W : Nat) (f : Nat -> Nat) : sumT (W + 1) f = sumT W f + f W := by unfold sumT; rw [List.range_succ, List.map_append, List.sum_append]; simp
theorem sumT_congr {W : Nat} {f g : Nat -> Nat} (h : ∀ t, t < W -> f t = g t) : sumT W f = sumT W g := by
  induction W with
  | zero => rfl
  | succ W ih => rw [sumT_succ, sumT_succ, ih (fun t ht => h t (by omega)), h W (by omega)]
theorem sumT_upd {W t : Nat} {f g : Nat -> Nat} (ht : t < W) (h : ∀ u, u < W -> u ≠ t -> g u = f u) : sumT W g + f t = sumT W f + g t := by
  induction W with
  | zero => omega
  | succ W ih =>
    rw [sumT_succ, sumT_succ]
    by_cases c : t = W
    · subst c
      have : sumT t g = sumT t f := sumT_congr (fun u hu => h u (by omega) (by omega))
      omega
    · have := ih (by omega) (fun u hu => h u (by omega))
      have := h W (by omega) (fun e => c e.symm)
      omega
theorem sumT_le {W : Nat} {f : Nat -> Nat} {k : Nat} (h : ∀ t, t < W -> f t <= k) : sumT W f <= W * k := by
  induction W with
  | zero => simp [sumT]
  | succ W ih =>
    rw [sumT_succ, Nat.add_mul]
    have := ih (fun t ht => h t (by omega))
    have := h W (by omega)
    omega
def bA (N P : Nat) (la : Option Nat) (m : Int) (t k : Nat) (r : Nat -> Int) (b : List Ent) : Nat -> Prop
  | 0 => la ≠ some t /\ b = [] /\ P = k
  | 1 => la ≠ some t /\ b = [] /\ P = k
  | 2 => la ≠ some t /\ b = [] /\ P = k /\ r 5 = (k : Int)
  | 3 => la ≠ some t /\ b = [] /\ P = k /\ r 5 = (k : Int) /\ r 4 = 1
  | 4 => (la ≠ some t /\ b = [] /\ (P = k ∨ P = k + 1) /\ r 5 = (k : Int) /\ r 4 ≠ ((N : Int) - 1)) ∨ (la = some t /\ b = [] /\ P = k /\ m = (N : Int) /\ r 4 = ((N : Int) - 1))
  | 5 => (la ≠ some t /\ b = [] /\ (P = k ∨ P = k + 1) /\ r 5 = (k : Int) /\ r 4 ≠ ((N : Int) - 1) /\ r 6 = ((N : Int) - 1)) ∨ (la = some t /\ b = [] /\ P = k /\ m = (N : Int) /\ r 4 = ((N : Int) - 1) /\ r 6 = ((N : Int) - 1))
  | 6 => (la ≠ some t /\ b = [] /\ (P = k ∨ P = k + 1) /\ r 5 = (k : Int) /\ r 6 = 0) ∨ (la = some t /\ b = [] /\ P = k /\ m = (N : Int) /\ r 6 = 1)
  | 7 => la = some t /\ b = [] /\ P = k /\ m = (N : Int)
  | 8 => la = some t /\ b = [] /\ P = k /\ m = (N : Int) /\ r 4 = 0
  | 9 => la = some t /\ ((b = [(16, 0)] /\ m = (N : Int)) ∨ (b = [] /\ m = 0)) /\ P = k
  | 10 => la = some t /\ ((b = [(16, 0)] /\ m = (N : Int)) ∨ (b = [] /\ m = 0)) /\ P = k /\ r 4 = 1
  | 11 => la ≠ some t /\ b = [] /\ P = k + 1
  | 12 => la ≠ some t /\ b = [] /\ P = k + 1
  | 13 => la ≠ some t /\ b = [] /\ P = k + 1
  | 14 => la ≠ some t /\ b = [] /\ (P = k ∨ P = k + 1) /\ r 5 = (k : Int)
  | 15 => la ≠ some t /\ b = [] /\ (P = k ∨ P = k + 1) /\ r 5 = (k : Int) /\ (r 4 ≠ (k : Int) -> P = k + 1)
  | 16 => la ≠ some t /\ b = [] /\ (P = k ∨ P = k + 1) /\ r 5 = (k : Int) /\ (r 6 = 0 -> P = k + 1)
  | 17 => la ≠ some t /\ b = [] /\ (P = k ∨ P = k + 1) /\ r 5 = (k : Int)
  | 18 => la ≠ some t /\ b = [] /\ (P = k ∨ P = k + 1) /\ r 5 = (k : Int) /\ r 4 = (k : Int)
  | 19 => la ≠ some t /\ b = [] /\ (P = k ∨ P = k + 1) /\ r 5 = (k : Int)
  | 20 => la ≠ some t /\ b = [] /\ P = k + 1
  | 21 => la ≠ some t /\ b = [] /\ P = k + 1 /\ r 7 = 0
  | _ => False
def BLoc (N rd P : Nat) (la : Option Nat) (m : Int) (t : Nat) (th : Th) (b : List Ent) : Prop :=
  ∃ k o, th.pc = ((k * 22 + o : Nat) : Int) /\ ((k < rd /\ o < 22 /\ (th.st = 0 ∨ th.st = 1) /\ bA N P la m t k th.regs b o) ∨ (k = rd /\ o = 0 /\ (th.st = 0 ∨ th.st = 2) /\ P = k /\ la ≠ some t /\ b = []))
def arr (P : Nat) (th : Th) : Nat := if ((P * 22 + 4 : Nat) : Int) <= th.pc /\ th.pc < ((P * 22 + 22 : Nat) : Int) then 1 else 0
def isMW (k : Int) (t : Nat) (x : Evt) : Bool := x.kind == 7 && x.k == k && x.who == (t : Int)
def knocks (th : Th) : Nat := (th.pc.toNat + 21) / 22
def okBr (N : Nat) (l : List Evt) : Prop := ∀ (i : Nat) (x : Evt), l[i]? = some x -> x.kind = 7 -> 0 <= x.who /\ x.who < (N : Int) /\ (x.k = 18 ∨ x.k = 19) /\ (x.k = 19 -> x.value = 0 /\ ∀ u, u < N -> cntE (isMW 18 x.who.toNat) (l.take i) <= cntE (isMW 18 u) (l.take i))
structure BarI (nt N rd : Nat) (v : Vw) (P : Nat) (la : Option Nat) : Prop where
  n1 : 1 <= N /\ N <= 8 /\ N <= nt /\ rd <= 100
  hP : P <= rd
  m17 : v.mem 17 = (P : Int)
  loc : ∀ t, t < N -> BLoc N rd P la (v.mem 16) t (v.th t) (v.bf t)
  out : ∀ t, N <= t -> t < nt -> (v.th t).pc = 0 /\ ((v.th t).st = 0 ∨ (v.th t).st = 2) /\ v.bf t = []
  none_ : la = none -> v.mem 16 = ((sumT N fun t => arr P (v.th t) : Nat) : Int) /\ (sumT N fun t => arr P (v.th t)) < N
  some_ : ∀ u, la = some u -> u < N /\ ∀ t, t < N -> arr P (v.th t) = 1
  k18 : ∀ t, t < N -> cntE (isMW 18 t) v.evs = knocks (v.th t)
  ev : okBr N v.evs
section
variable {nt N rd : Nat} {v : Vw} {P t : Nat} {la : Option Nat}
theorem BarI.move (H : BarI nt N rd v P la) (ht : t < N) {th : Th} {b : List Ent} {l : List Evt} (ha : arr P th = arr P (v.th t)) (hk : ∀ u, u < N -> cntE (isMW 18 u) (v.evs ++ l) = if u = t then knocks th else knocks (v.th u)) (he : okBr N (v.evs ++ l)) (hloc : BLoc N rd P la (v.mem 16) t th b) : BarI nt N rd (v.mv t th b v.mem l) P la := by
  have hs : ∀ u, arr P (upd v.th t th u) = arr P (v.th u) := fun u => by
    by_cases c : u = t
    · subst c; rw [upd_same]; exact ha
    · rw [upd_ne _ _ _ c]
  refine ⟨H.n1, H.hP, H.m17, fun u hu => ?_, fun u h1 h2 => ?_, fun h => ?_, fun u h => ⟨(H.some_ u h).1, fun w hw => (hs w).trans ((H.some_ u h).2 w hw)⟩, fun u hu => ?_, he⟩
  · by_cases c : u = t
    · subst c
      show BLoc N rd P la (v.mem 16) u (upd v.th u th u) (upd v.bf u b u)
      rw [upd_same, upd_same]; exact hloc
    · show BLoc N rd P la (v.mem 16) u (upd v.th t th u) (upd v.bf t b u)
      rw [upd_ne _ _ _ c, upd_ne _ _ _ c]; exact H.loc u hu
  · show (upd v.th t th u).pc = 0 /\ ((upd v.th t th u).st = 0 ∨ (upd v.th t th u).st = 2) /\ upd v.bf t b u = []
    rw [upd_ne _ _ _ (by omega), upd_ne _ _ _ (by omega)]; exact H.out u h1 h2
  · have e : (sumT N fun u => arr P (upd v.th t th u)) = sumT N fun u => arr P (v.th u) := sumT_congr (fun u _ => hs u)
    show v.mem 16 = ((sumT N fun u => arr P (upd v.th t th u) : Nat) : Int) /\ (sumT N fun u => arr P (upd v.th t th u)) < N
    rw [e]; exact H.none_ h
  · show cntE (isMW 18 u) (v.evs ++ l) = knocks (upd v.th t th u)
    rw [hk u hu]
    by_cases c : u = t
    · rw [if_pos c, c, upd_same]
    · rw [if_neg c, upd_ne _ _ _ c]
theorem BLoc.run {m : Int} {th : Th} {b : List Ent} (h : BLoc N rd P la m t th b) : BLoc N rd P la m t ⟨th.pc, th.regs, 0⟩ b := by
  obtain ⟨k, o, h1, h2⟩ := h
  exact ⟨k, o, h1, h2.imp (fun q => ⟨q.1, q.2.1, .inl rfl, q.2.2.2⟩) (fun q => ⟨q.1, q.2.1, .inl rfl, q.2.2.2⟩)⟩
theorem BarI.run (H : BarI nt N rd v P la) (ws : List Int) : BarI nt N rd { v with th := runV ws v.th } P la := by
  have hpc : ∀ u, (runV ws v.th u).pc = (v.th u).pc := fun u => by unfold runV; split <;> rfl
  have ha : ∀ u, arr P (runV ws v.th u) = arr P (v.th u) := fun u => by unfold arr; rw [hpc]
  have hk : ∀ u, knocks (runV ws v.th u) = knocks (v.th u) := fun u => by unfold knocks; rw [hpc]
  refine ⟨H.n1, H.hP, H.m17, fun u hu => ?_, fun u h1 h2 => ?_, fun h => ?_, fun u h => ⟨(H.some_ u h).1, fun w hw => (ha w).trans ((H.some_ u h).2 w hw)⟩, fun u hu => (H.k18 u hu).trans (hk u).symm, H.ev⟩
  · show BLoc N rd P la (v.mem 16) u (if (u : Int) ∈ ws then { v.th u with st := 0 } else v.th u) (v.bf u)
    split
    · exact (H.loc u hu).run
    · exact H.loc u hu
  · refine ⟨(hpc u).trans (H.out u h1 h2).1, ?_, (H.out u h1 h2).2.2⟩
    show (runV ws v.th u).st = 0 ∨ (runV ws v.th u).st = 2
    unfold runV
    split
    · exact .inl rfl
    · exact (H.out u h1 h2).2.1
  · have e : (sumT N fun u => arr P (runV ws v.th u)) = sumT N fun u => arr P (v.th u) := sumT_congr (fun u _ => ha u)
    show v.mem 16 = ((sumT N fun u => arr P (runV ws v.th u) : Nat) : Int) /\ (sumT N fun u => arr P (runV ws v.th u)) < N
    rw [e]; exact H.none_ h
theorem BLoc.next {m : Int} {k : Nat} {th : Th} {b : List Ent} (hpc : th.pc = ((k * 22 + 22 : Nat) : Int)) (hn : k < rd) (hst : th.st = 0) (hg : la ≠ some t) (hb : b = []) (hP : P = k + 1) : BLoc N rd P la m t th b := by
  refine ⟨k + 1, 0, by rw [hpc]; omega, ?_⟩
  rcases Nat.lt_or_ge (k + 1) rd with c | c
  · exact .inl ⟨c, by decide, .inl hst, hg, hb, hP⟩
  · exact .inr ⟨by omega, rfl, .inl hst, hP, hg, hb⟩
theorem BLoc.buf {m : Int} {th : Th} {b : List Ent} (h : BLoc N rd P la m t th b) (hb : b ≠ []) : la = some t /\ b = [(16, 0)] /\ BLoc N rd P la 0 t th [] := by
  obtain ⟨k, o, hp, h | h⟩ := h
  · have hA := h.2.2.2
    have mk : bA N P la 0 t k th.regs [] o -> BLoc N rd P la 0 t th [] := fun q => ⟨k, o, hp, .inl ⟨h.1, h.2.1, h.2.2.1, q⟩⟩
    unfold bA at hA mk
    split at hA
    all_goals first
      | exact hA.elim
      | exact absurd hA.2.1 hb
      | exact absurd hA.2 hb
      | exact hA.elim (fun q => absurd q.2.1 hb) (fun q => absurd q.2.1 hb)
      | exact ⟨hA.1, hA.2.1.elim (fun q => q.1) (fun q => absurd q.1 hb), mk ⟨hA.1, .inr ⟨rfl, rfl⟩, hA.2.2⟩⟩
  · exact absurd h.2.2.2.2.2 hb
end
def okO (D : Nat) (O : List Int) : Prop := (∀ i, 1 <= i -> i < O.length -> O.getD (i - 1) 0 <= O.getD i 0 /\ (i % 2 = 1 -> O.getD i 0 = O.getD (i - 1) 0)) /\ ∀ x ∈ O, x <= (D : Int)
def B1 (a : Nat) (x M : Int) (b : List Ent) : Prop := (b = [((a : Int), x)] /\ M = 0) ∨ (b = [] /\ M = x)
def B2 (a : Nat) (M m0 : Int) (D : Nat) (b : List Ent) : Prop := (b = [((a : Int), 2), (0, (D : Int) + 1)] /\ M = 0 /\ m0 = (D : Int)) ∨ (b = [(0, (D : Int) + 1)] /\ M = 2 /\ m0 = (D : Int)) ∨ (b = [] /\ M = 2 /\ m0 = (D : Int) + 1)
def B3 (a : Nat) (M m0 : Int) (D : Nat) (b : List Ent) : Prop := (b = [((a : Int), 2), (0, (D : Int) + 1), ((a : Int), 0)] /\ M = 0 /\ m0 = (D : Int)) ∨ (b = [(0, (D : Int) + 1), ((a : Int), 0)] /\ M = 2 /\ m0 = (D : Int)) ∨ (b = [((a : Int), 0)] /\ M = 2 /\ m0 = (D : Int) + 1) ∨ (b = [] /\ M = 0 /\ m0 = (D : Int) + 1)
def B4 (a : Nat) (M : Int) (b : List Ent) : Prop := (b = [((a : Int), 1), ((a : Int), 0)] /\ M = 0) ∨ (b = [((a : Int), 0)] /\ M = 1) ∨ (b = [] /\ M = 0)
structure RL where
  (wt rs iw ir : Bool)
  c : Nat
  (M m0 : Int)
  D : Nat
  O : List Int
structure RFree (L : RL) (c : Nat) (b : List Ent) : Prop where
  wt : L.wt = false
  rs : L.rs = false
  iw : L.iw = false
  ir : L.ir = false
  c : L.c = c
  b : b = []
  M : L.M = 0
  O : okO L.D L.O /\ L.O.length % 2 = 0
structure RWr (L : RL) (c : Nat) (inn : Bool) : Prop where
  wt : L.wt = true
  rs : L.rs = false
  iw : L.iw = inn
  ir : L.ir = false
  c : L.c = c
  O : okO L.D L.O /\ L.O.length % 2 = 0
structure RRd (L : RL) (c : Nat) (inn : Bool) (odd : Nat) : Prop where
  wt : L.wt = false
  rs : L.rs = true
  iw : L.iw = false
  ir : L.ir = inn
  c : L.c = c
  O : okO L.D L.O /\ L.O.length % 2 = odd /\ (odd = 1 -> L.O.getD (L.O.length - 1) 0 = (L.D : Int))
def wA (L : RL) (c t : Nat) (r : Nat -> Int) (b : List Ent) : Nat -> Prop
  | 0 => RFree L c b
  | 1 => RFree L c b
  | 2 => RFree L c b /\ r 4 = 0
  | 5 => RFree L c b
  | 6 => RFree L c b /\ r 4 = 0
  | 7 => RFree L c b /\ r 4 = 0 /\ r 5 = 4294967295
  | 8 => (RFree L c b /\ r 4 ≠ 0) ∨ (RWr L c false /\ (b = [] /\ L.M = 0) /\ L.m0 = (L.D : Int) /\ r 4 = 0)
  | 9 => RFree L c b
  | 10 => RFree L c b
  | 11 => RWr L c false /\ (b = [] /\ L.M = 0) /\ L.m0 = (L.D : Int)
  | 12 => RWr L c false /\ (b = [] /\ L.M = 0) /\ L.m0 = (L.D : Int) /\ r 4 = 2
  | 13 => RWr L c false /\ B1 (17 + t) 2 L.M b /\ L.m0 = (L.D : Int)
  | 14 => RWr L c false /\ B1 (17 + t) 2 L.M b /\ L.m0 = (L.D : Int) /\ r 7 = 0
  | 15 => RWr L c true /\ B1 (17 + t) 2 L.M b /\ L.m0 = (L.D : Int)
  | 16 => RWr L c true /\ B1 (17 + t) 2 L.M b /\ L.m0 = (L.D : Int) /\ r 1 = (L.D : Int)
  | 17 => RWr L c true /\ B1 (17 + t) 2 L.M b /\ L.m0 = (L.D : Int) /\ r 1 = (L.D : Int) /\ r 2 = 1
  | 18 => RWr L c true /\ B1 (17 + t) 2 L.M b /\ L.m0 = (L.D : Int) /\ r 1 = (L.D : Int) + 1
  | 19 => RWr L c true /\ B2 (17 + t) L.M L.m0 L.D b
  | 20 => RWr L c false /\ B2 (17 + t) L.M L.m0 L.D b
  | 21 => RWr L c false /\ B2 (17 + t) L.M L.m0 L.D b /\ r 4 = 2
  | 24 => RWr L c false /\ B2 (17 + t) L.M L.m0 L.D b /\ r 4 = 2
  | 25 => RWr L c false /\ B2 (17 + t) L.M L.m0 L.D b /\ r 4 = 2 /\ r 5 = 1
  | 26 => RWr L c false /\ B2 (17 + t) L.M L.m0 L.D b /\ r 6 = 0
  | 27 => RWr L c false /\ B2 (17 + t) L.M L.m0 L.D b /\ r 6 = 0 /\ r 4 = 0
  | 28 => RWr L c false /\ B3 (17 + t) L.M L.m0 L.D b /\ r 6 = 0
  | 29 => RWr L c false /\ B3 (17 + t) L.M L.m0 L.D b
  | 30 => RWr L c false /\ B3 (17 + t) L.M L.m0 L.D b /\ r 4 = 0
  | 31 => RFree L (c + 1) b
  | 37 => RFree L (c + 1) b
  | 38 => RFree L (c + 1) b
  | 39 => RFree L (c + 1) b
  | 40 => RFree L (c + 1) b /\ r 7 = 0
  | _ => False
def rA (L : RL) (c t : Nat) (r : Nat -> Int) (b : List Ent) : Nat -> Prop
  | 0 => RFree L c b
  | 1 => RFree L c b
  | 2 => RFree L c b /\ r 4 = 0
  | 5 => RFree L c b
  | 6 => RFree L c b
  | 7 => RFree L c b /\ r 5 = 4294967295
  | 8 => RFree L c b /\ (r 6 = 0 -> r 4 ≠ 4294967295)
  | 9 => RFree L c b /\ r 4 ≠ 4294967295
  | 10 => RFree L c b /\ r 4 ≠ 4294967295 /\ r 5 = 1
  | 11 => RFree L c b /\ r 4 ≠ 4294967295 /\ r 5 = (r 4 + 1) % 4294967296
  | 12 => RFree L c b /\ r 4 ≠ 4294967295 /\ r 5 = (r 4 + 1) % 4294967296 /\ r 6 = r 4
  | 13 => (RFree L c b /\ r 4 ≠ r 6) ∨ (RRd L c false 0 /\ (b = [] /\ L.M = 0) /\ r 4 = r 6)
  | 14 => (RFree L c b /\ r 6 = 0) ∨ (RRd L c false 0 /\ (b = [] /\ L.M = 0) /\ r 6 = 1)
  | 15 => RRd L c false 0 /\ (b = [] /\ L.M = 0)
  | 16 => RRd L c false 0 /\ (b = [] /\ L.M = 0) /\ r 4 = 1
  | 17 => RRd L c false 0 /\ B1 (17 + t) 1 L.M b
  | 18 => RRd L c false 0 /\ B1 (17 + t) 1 L.M b /\ r 7 = 0
  | 19 => RFree L c b
  | 20 => RFree L c b
  | 21 => RRd L c false 0 /\ B1 (17 + t) 1 L.M b /\ r 7 = 0
  | 22 => RRd L c true 0 /\ B1 (17 + t) 1 L.M b
  | 23 => RRd L c true 0 /\ B1 (17 + t) 1 L.M b /\ r 1 = (L.D : Int)
  | 24 => RRd L c true 1 /\ B1 (17 + t) 1 L.M b
  | 25 => RRd L c true 1 /\ B1 (17 + t) 1 L.M b /\ r 1 = (L.D : Int)
  | 26 => RRd L c true 0 /\ B1 (17 + t) 1 L.M b
  | 27 => RRd L c false 0 /\ B1 (17 + t) 1 L.M b
  | 28 => RRd L c false 0 /\ B1 (17 + t) 1 L.M b /\ r 4 = 1
  | 31 => RRd L c false 0 /\ B1 (17 + t) 1 L.M b /\ r 4 = 1
  | 32 => RRd L c false 0 /\ B1 (17 + t) 1 L.M b /\ r 4 = 1 /\ r 5 = 1
  | 33 => RRd L c false 0 /\ B1 (17 + t) 1 L.M b /\ r 6 = 1
  | 34 => RRd L c false 0 /\ B1 (17 + t) 1 L.M b /\ r 6 = 1 /\ r 4 = 0
  | 35 => RRd L c false 0 /\ B4 (17 + t) L.M b /\ r 6 = 1
  | 39 => RRd L c false 0 /\ B4 (17 + t) L.M b
  | 40 => RRd L c false 0 /\ B4 (17 + t) L.M b /\ r 4 = 4294967295
  | 41 => RFree L c b
  | 42 => RFree L c b
  | 43 => RFree L c b
  | 44 => RFree L c b
  | 45 => RFree L c b
  | 46 => RFree L c b
  | 47 => RFree L c b /\ r 7 = 0
  | _ => False
def wrs (kd : Nat -> Bool) (n : Nat) : Nat := sumT n fun i => if kd i = true then 1 else 0
def RLoc (kd : Nat -> Bool) (rd : Nat) (bs : Nat -> Nat) (L : RL) (t : Nat) (th : Th) (b : List Ent) : Prop :=
  ∃ n o, th.pc = ((bs n + o : Nat) : Int) /\ ((n < rd /\ (th.st = 0 ∨ th.st = 1) /\ ((kd n = true /\ o < 41 /\ wA L (wrs kd n) t th.regs b o) ∨ (kd n = false /\ o < 48 /\ rA L (wrs kd n) t th.regs b o))) ∨ (n = rd /\ o = 0 /\ (th.st = 0 ∨ th.st = 2) /\ RFree L (wrs kd n) b))
def rwS (s : Option (Int × Int)) (x : Evt) : Option (Int × Int) :=
  match s with
  | none => none
  | some (w, r) => if x.kind ≠ 7 then some (w, r) else if x.k = 1 then (if x.value ≠ 0 ∨ 0 <= w ∨ 0 < r then none else some (x.who, r)) else if x.k = 5 then (if x.value ≠ 0 ∨ 0 <= w then none else some (w, r + 1)) else if x.k = 2 then (if w = x.who then some (-1, r) else some (w, r - 1)) else if x.k = 3 then (if x.value ≠ 0 then none else some (w, r)) else some (w, r)
def rwScan (l : List Evt) : Option (Int × Int) := l.foldl rwS (some (-1, 0))
def outE (t : Nat) (l : List Evt) : List Int := (l.filter fun x => x.kind == 6 && x.who == (t : Int)).map fun x => x.value
theorem outE_quiet {t : Nat} {l m : List Evt} (h : ∀ x ∈ m, x.kind ≠ 6 ∨ x.who ≠ (t : Int)) : outE t (l ++ m) = outE t l := by
  have e : m.filter (fun x => x.kind == 6 && x.who == (t : Int)) = [] := List.filter_eq_nil_iff.2 (fun x hx => by rcases h x hx with q | q <;> simp [q])
  unfold outE
  rw [List.filter_append, e, List.append_nil]
theorem outE_snoc {t : Nat} {l : List Evt} {x : Evt} (h1 : x.kind = 6) (h2 : x.who = (t : Int)) : outE t (l ++ [x]) = outE t l ++ [x.value] := by
  unfold outE
  rw [List.filter_append, List.map_append, List.filter_cons_of_pos (by simp [h1, h2])]
  rfl
def curW : Option Nat -> Int
  | none => -1
  | some t => (t : Int)
structure RG where
  w : Option Nat
  rs : Nat -> Bool
  D : Nat
  iw : Option Nat
  ir : Nat -> Bool
  wc : Nat -> Nat
def b2n (b : Bool) : Nat := if b = true then 1 else 0
def RG.at_ (g : RG) (v : Vw) (t : Nat) : RL := ⟨decide (g.w = some t), g.rs t, decide (g.iw = some t), g.ir t, g.wc t, v.mem (17 + t), v.mem 0, g.D, outE t v.evs⟩
structure RwI (nt : Nat) (kd : Nat -> Nat -> Bool) (rd : Nat -> Nat) (bs : Nat -> Nat -> Nat) (v : Vw) (g : RG) : Prop where
  n8 : nt <= 8
  rd4 : ∀ t, t < nt -> rd t <= 4
  nx : ∀ t n, bs t (n + 1) = bs t n + (if kd t n = true then 41 else 48)
  sh0 : g.w = none -> v.mem 16 = ((sumT nt fun t => b2n (g.rs t) : Nat) : Int) /\ v.mem 0 = (g.D : Int)
  sh1 : ∀ u, g.w = some u -> v.mem 16 = 4294967295 /\ u < nt /\ ∀ t, t < nt -> g.rs t = false
  loc : ∀ t, t < nt -> RLoc (kd t) (rd t) (bs t) (g.at_ v t) t (v.th t) (v.bf t)
  D : g.D = sumT nt g.wc
  iwl : ∀ u, g.iw = some u -> u < nt
  scan : rwScan v.evs = some (curW g.iw, ((sumT nt fun t => b2n (g.ir t) : Nat) : Int))
section
variable {nt : Nat} {kd : Nat -> Nat -> Bool} {rd : Nat -> Nat} {bs : Nat -> Nat -> Nat} {v : Vw} {g : RG} {t : Nat}
theorem RLoc.run {kd : Nat -> Bool} {rd : Nat} {bs : Nat -> Nat} {L : RL} {th : Th} {b : List Ent} (h : RLoc kd rd bs L t th b) : RLoc kd rd bs L t ⟨th.pc, th.regs, 0⟩ b := by
  obtain ⟨n, o, hp, h | h⟩ := h
  · exact ⟨n, o, hp, .inl ⟨h.1, .inl rfl, h.2.2⟩⟩
  · exact ⟨n, o, hp, .inr ⟨h.1, h.2.1, .inl rfl, h.2.2.2⟩⟩
theorem RwI.run (H : RwI nt kd rd bs v g) (ws : List Int) : RwI nt kd rd bs { v with th := runV ws v.th } g := by
  refine ⟨H.n8, H.rd4, H.nx, H.sh0, H.sh1, fun u hu => ?_, H.D, H.iwl, H.scan⟩
  show RLoc (kd u) (rd u) (bs u) (g.at_ v u) u (if (u : Int) ∈ ws then { v.th u with st := 0 } else v.th u) (v.bf u)
  split
  · exact (H.loc u hu).run
  · exact H.loc u hu
theorem RwI.next (H : RwI nt kd rd bs v g) {L : RL} {n : Nat} {th : Th} {b : List Ent} (hpc : th.pc = ((bs t n + (if kd t n = true then 41 else 48) : Nat) : Int)) (hn : n < rd t) (hst : th.st = 0) (hf : RFree L (wrs (kd t) (n + 1)) b) : RLoc (kd t) (rd t) (bs t) L t th b := by
  refine ⟨n + 1, 0, by rw [hpc, H.nx, Nat.add_zero], ?_⟩
  rcases Nat.lt_or_ge (n + 1) (rd t) with c | c
  · refine .inl ⟨c, .inl hst, ?_⟩
    cases hk : kd t (n + 1) with
    | true => exact .inl ⟨rfl, by decide, hf⟩
    | false => exact .inr ⟨rfl, by decide, hf⟩
  · exact .inr ⟨by omega, rfl, .inl hst, hf⟩
theorem wrs_le (kd : Nat -> Bool) (n : Nat) : wrs kd n <= n := by
  have := sumT_le (W := n) (f := fun i => if kd i = true then 1 else 0) (k := 1) (fun i _ => by split <;> omega)
  unfold wrs
  omega
theorem RLoc.in_ {kd : Nat -> Bool} {rd : Nat} {bs : Nat -> Nat} {L : RL} {th : Th} {b : List Ent} (h : RLoc kd rd bs L t th b) : (L.iw = true -> L.wt = true) /\ (L.ir = true -> L.rs = true) /\ L.c <= rd := by
  have f1 : ∀ {c}, RFree L c b -> c <= rd -> (L.iw = true -> L.wt = true) /\ (L.ir = true -> L.rs = true) /\ L.c <= rd := fun q hc => ⟨(fun z => absurd (z.symm.trans q.iw) (by decide)), (fun z => absurd (z.symm.trans q.ir) (by decide)), by rw [q.c]; exact hc⟩
  have f2 : ∀ {c i}, RWr L c i -> c <= rd -> (L.iw = true -> L.wt = true) /\ (L.ir = true -> L.rs = true) /\ L.c <= rd := fun q hc => ⟨fun _ => q.wt, (fun z => absurd (z.symm.trans q.ir) (by decide)), by rw [q.c]; exact hc⟩
  have f3 : ∀ {c i o}, RRd L c i o -> c <= rd -> (L.iw = true -> L.wt = true) /\ (L.ir = true -> L.rs = true) /\ L.c <= rd := fun q hc => ⟨(fun z => absurd (z.symm.trans q.iw) (by decide)), fun _ => q.rs, by rw [q.c]; exact hc⟩
  obtain ⟨n, o, hp, h | h⟩ := h
  · have hle := wrs_le kd n
    have hc : wrs kd n <= rd := by have := h.1; omega
    have hc1 : wrs kd n + 1 <= rd := by have := h.1; omega
    rcases h.2.2 with q | q
    · have hA := q.2.2
      unfold wA at hA
      split at hA
      all_goals first
        | exact hA.elim
        | exact f1 hA hc
        | exact f1 hA hc1
        | exact f1 hA.1 hc
        | exact f1 hA.1 hc1
        | exact f2 hA.1 hc
        | exact hA.elim (fun q => f1 q.1 hc) (fun q => f2 q.1 hc)
    · have hA := q.2.2
      unfold rA at hA
      split at hA
      all_goals first
        | exact hA.elim
        | exact f1 hA hc
        | exact f1 hA.1 hc
        | exact f3 hA.1 hc
        | exact hA.elim (fun q => f1 q.1 hc) (fun q => f3 q.1 hc)
  · exact f1 h.2.2.2 (by have := wrs_le kd n; have := h.1; omega)
theorem sumT_zero {W : Nat} {f : Nat -> Nat} (h : sumT W f = 0) : ∀ t, t < W -> f t = 0 := by
  induction W with
  | zero => exact fun t ht => absurd ht (by omega)
  | succ W ih =>
    rw [sumT_succ] at h
    intro t ht
    rcases Nat.lt_or_ge t W with c | c
    · exact ih (by omega) t c
    · have : t = W := by omega
      subst this; omega
theorem sumT_none {W : Nat} {f : Nat -> Nat} (h : ∀ t, t < W -> f t = 0) : sumT W f = 0 := by
  have := sumT_le (W := W) (f := f) (k := 0) (fun t ht => by rw [h t ht]; exact Nat.le_refl _)
  omega
theorem RwI.alone (H : RwI nt kd rd bs v g) (ht : t < nt) (hw : g.w = some t) (hi : g.iw ≠ some t) : g.iw = none /\ (sumT nt fun t => b2n (g.ir t)) = 0 := by
  refine ⟨?_, sumT_none (fun u hu => ?_)⟩
  · cases h : g.iw with
    | none => rfl
    | some u =>
      have hu := H.iwl u h
      have := (H.loc u hu).in_.1 (decide_eq_true h)
      have e : g.w = some u := of_decide_eq_true this
      rw [hw] at e
      rw [Option.some.inj e] at hi
      exact absurd h hi
  · have h1 := (H.sh1 t hw).2.2 u hu
    cases h : g.ir u with
    | false => rfl
    | true => exact absurd (((H.loc u hu).in_.2.1 h).symm.trans h1) (by decide)
end
end Go.Proofs.YtmhfpjnkjlhbpaaGreatDoor
