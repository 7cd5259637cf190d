/- law10 (plain): each load, and what is locked, tells what was stored last. -/
import Derived.Test.YtjmnogpnjombgaaDoorScRun
namespace Go.Proofs.YtjmnogpnjombgaaDoor
open Go.ChangeShapes Go.WideShapes Go.ChangeAt Go.RowKit Go.Deep
set_option linter.unusedVariables false
set_option maxRecDepth 100000
set_option linter.unusedSimpArgs false

/-- What was stored last at an address. -/
def lstep (a : Int) (v : Int) (x : Evt) : Int := if x.addr = a ∧ (x.kind = 2 ∨ x.kind = 4) then x.value else v
def lastW (l : List Evt) (a v0 : Int) : Int := l.foldl (lstep a) v0
theorem lastW_snoc (l : List Evt) (x : Evt) (a v0 : Int) : lastW (l ++ [x]) a v0 = lstep a (lastW l a v0) x := by unfold lastW; rw [List.foldl_append]; rfl
/-- Does an event tell what it has to? -/
def SeesX (l : List Evt) (Z : Nat → Int) (m : Nat) (x : Evt) : Prop := (x.kind = 1 ∨ x.kind = 4 ∨ x.kind = 8) → (0 ≤ x.addr ∧ x.addr < (m : Int)) ∧ (x.kind = 4 → lastW l x.addr (Z x.addr.toNat) = x.old) ∧ (x.kind ≠ 4 → lastW l x.addr (Z x.addr.toNat) = x.value)
/-- Memory is what was stored last; each event tells what it has to. -/
structure SeesI (Z : Nat → Int) (m : Nat) (s : Mst) : Prop where
  len : s.mem.length = m
  mem : ∀ a, a < m → s.mem.getD a 0 = lastW s.evs (a : Int) (Z a)
  ev : ∀ i, i < s.evs.length → SeesX (s.evs.take i) Z m (s.evs.getD i ⟨0, 0, 0, 0, 0, 0, 0, false⟩)
section
variable {Z : Nat → Int} {m : Nat} {s s' : Mst}
theorem SeesI.congr (h : SeesI Z m s) (hm : s'.mem = s.mem) (he : s'.evs = s.evs) : SeesI Z m s' := ⟨by rw [hm]; exact h.len, by rw [hm, he]; exact h.mem, by rw [he]; exact h.ev⟩
/-- An event more, and what memory holds behind it. -/
theorem SeesI.snoc (h : SeesI Z m s) (x : Evt) (mem : List Int) (hl : mem.length = m) (hm : ∀ a, a < m → mem.getD a 0 = lstep (a : Int) (s.mem.getD a 0) x) (hx : SeesX s.evs Z m x) (he : s'.evs = s.evs ++ [x]) (hm' : s'.mem = mem) : SeesI Z m s' := by
  refine ⟨by rw [hm']; exact hl, fun a ha => ?_, fun i hi => ?_⟩
  · rw [hm', he, lastW_snoc, hm a ha, h.mem a ha]
  · rw [he] at hi ⊢
    rcases getD_snoc s.evs x ⟨0, 0, 0, 0, 0, 0, 0, false⟩ i hi with ⟨h1, h2⟩ | ⟨h1, h2⟩
    · rw [h2, List.take_append_of_le_length (Nat.le_of_lt h1)]
      exact h.ev i h1
    · rw [h2, h1, List.take_append_of_le_length (Nat.le_refl _), List.take_length]
      exact hx
theorem lstep_no {a v : Int} {x : Evt} (h : x.kind ≠ 2 ∧ x.kind ≠ 4) : lstep a v x = v := if_neg (fun q => q.2.elim h.1 h.2)
/-- A note that stores nothing and tells nothing. -/
theorem SeesI.note (h : SeesI Z m s) (t : Int) (x : Evt) (hx : x.kind ≠ 2 ∧ x.kind ≠ 4) (h1 : x.kind = 1 ∨ x.kind = 8 → ∃ a : Nat, a < m ∧ x.addr = (a : Int) ∧ x.value = s.mem.getD a 0) : SeesI Z m (noteM t s x) := by
  refine h.snoc { x with who := t } s.mem h.len (fun a ha => (lstep_no hx).symm) (fun hk => ?_) rfl rfl
  obtain ⟨a, ha, e1, e2⟩ := h1 (by rcases hk with hk | hk | hk; exact .inl hk; exact absurd hk hx.2; exact .inr hk)
  show (0 ≤ x.addr ∧ x.addr < (m : Int)) ∧ (x.kind = 4 → _) ∧ (x.kind ≠ 4 → lastW s.evs x.addr (Z x.addr.toNat) = x.value)
  rw [e1, e2, Int.toNat_natCast]
  exact ⟨⟨by omega, by omega⟩, fun q => absurd q hx.2, fun _ => (h.mem a ha).symm⟩
theorem getD_set (l : List Int) (a b : Nat) (v : Int) (hb : b < l.length) : (l.set a v).getD b 0 = if b = a then v else l.getD b 0 := by
  simp only [List.getD_eq_getElem?_getD, List.getElem?_set]
  by_cases h : a = b
  · subst h
    simp [hb]
  · rw [if_neg h, if_neg (fun e => h e.symm)]
/-- A store, told. -/
theorem SeesI.store (h : SeesI Z m s) (t pc : Int) (a : Nat) (ha : a < m) (v : Int) : SeesI Z m (noteM t { s with mem := s.mem.set a v } ⟨2, 0, pc, (a : Int), v, 0, 0, false⟩) := by
  refine h.snoc ⟨2, t, pc, (a : Int), v, 0, 0, false⟩ (s.mem.set a v) (by rw [List.length_set]; exact h.len) (fun b hb => ?_) (fun hk => by rcases hk with hk | hk | hk <;> exact absurd (show (2 : Int) = _ from hk) (by decide)) rfl rfl
  rw [getD_set _ _ _ _ (by rw [h.len]; exact hb)]
  unfold lstep
  by_cases e : b = a
  · rw [if_pos e, if_pos ⟨by rw [e], .inl rfl⟩]
  · rw [if_neg e, if_neg (fun q => e (by have := q.1; simp only at this; omega))]
/-- What is locked, told. -/
theorem SeesI.swap (h : SeesI Z m s) (t pc : Int) (a : Nat) (ha : a < m) (v : Int) : SeesI Z m (noteM t { s with mem := s.mem.set a v } ⟨4, 0, pc, (a : Int), v, s.mem.getD a 0, 0, true⟩) := by
  refine h.snoc ⟨4, t, pc, (a : Int), v, s.mem.getD a 0, 0, true⟩ (s.mem.set a v) (by rw [List.length_set]; exact h.len) (fun b hb => ?_) (fun hk => ?_) rfl rfl
  · rw [getD_set _ _ _ _ (by rw [h.len]; exact hb)]
    unfold lstep
    by_cases e : b = a
    · rw [if_pos e, if_pos ⟨by rw [e], .inr rfl⟩]
    · rw [if_neg e, if_neg (fun q => e (by have := q.1; simp only at this; omega))]
  · refine ⟨⟨by show (0 : Int) ≤ (a : Int); omega, by show (a : Int) < (m : Int); omega⟩, fun _ => ?_, fun q => absurd rfl q⟩
    show lastW s.evs (a : Int) (Z (a : Int).toNat) = s.mem.getD a 0
    rw [Int.toNat_natCast]
    exact (h.mem a ha).symm
theorem SeesI.swapNo (h : SeesI Z m s) (t pc : Int) (a : Nat) (ha : a < m) : SeesI Z m (noteM t s ⟨4, 0, pc, (a : Int), s.mem.getD a 0, s.mem.getD a 0, 0, false⟩) := by
  refine h.snoc ⟨4, t, pc, (a : Int), s.mem.getD a 0, s.mem.getD a 0, 0, false⟩ s.mem h.len (fun b hb => ?_) (fun hk => ?_) rfl rfl
  · unfold lstep
    by_cases e : b = a
    · subst e
      rw [if_pos ⟨rfl, .inr rfl⟩]
    · rw [if_neg (fun q => e (by have := q.1; simp only at this; omega))]
  · refine ⟨⟨by show (0 : Int) ≤ (a : Int); omega, by show (a : Int) < (m : Int); omega⟩, fun _ => ?_, fun q => absurd rfl q⟩
    show lastW s.evs (a : Int) (Z (a : Int).toNat) = s.mem.getD a 0
    rw [Int.toNat_natCast]
    exact (h.mem a ha).symm
theorem sleepM_mem (t : Int) (s : Mst) (a : Nat) : (sleepM t s a).mem = s.mem ∧ (sleepM t s a).evs = s.evs := by
  unfold sleepM
  split <;> exact ⟨rfl, rfl⟩
theorem SeesI.lock {B : MB} (hB : B.m = m) (h : SeesI Z m s) (pc : Int) (a : Nat) (ha : a < m) (v : Int) (ok : Bool) : SeesI Z m (lockS (sOps B) s pc a (s.mem.getD a 0) v ok) := by
  unfold lockS
  cases ok
  · exact h.swapNo s.who pc a ha
  · exact h.swap s.who pc a ha v
theorem SeesI.asks {B : MB} (hB : B.m = m) (h : SeesI Z m s) (t : Th) (op : Int) (ra rc a : Nat) (ha : a < m) : SeesI Z m (asksR (sOps B) s t op ra rc a).2 := by
  unfold asksR
  split
  · exact h.note s.who _ ⟨by show (1 : Int) ≠ 2; decide, by show (1 : Int) ≠ 4; decide⟩ (fun _ => ⟨a, ha, rfl, rfl⟩)
  split
  · exact h.store s.who t.pc a ha (t.regs ra)
  split
  · exact h.lock hB t.pc a ha _ true
  split
  · exact h.lock hB t.pc a ha _ true
  split
  · exact h.lock hB t.pc a ha _ _
  split
  · unfold waitR
    split
    · have h1 : SeesI Z m (noteM s.who s ⟨8, 0, t.pc, (a : Int), s.mem.getD a 0, 0, 0, true⟩) := h.note s.who _ ⟨by show (8 : Int) ≠ 2; decide, by show (8 : Int) ≠ 4; decide⟩ (fun _ => ⟨a, ha, rfl, rfl⟩)
      exact h1.congr (sleepM_mem _ _ a).1 (sleepM_mem _ _ a).2
    · exact h.note s.who _ ⟨by show (8 : Int) ≠ 2; decide, by show (8 : Int) ≠ 4; decide⟩ (fun _ => ⟨a, ha, rfl, rfl⟩)
  · have h1 : SeesI Z m (wakeM s a (t.regs ra)).2 := h.congr rfl rfl
    exact h1.note s.who _ ⟨by show (9 : Int) ≠ 2; decide, by show (9 : Int) ≠ 4; decide⟩ (fun q => by rcases q with q | q <;> exact absurd (show (9 : Int) = _ from q) (by decide))
/-- A note of another kind. -/
theorem SeesI.other (h : SeesI Z m s) (t : Int) (x : Evt) (hx : x.kind ≠ 2 ∧ x.kind ≠ 4 ∧ x.kind ≠ 1 ∧ x.kind ≠ 8) : SeesI Z m (noteM t s x) := h.note t x ⟨hx.1, hx.2.1⟩ (fun q => q.elim (fun e => absurd e hx.2.2.1) (fun e => absurd e hx.2.2.2))
theorem SeesI.plain {B : MB} (h : SeesI Z m s) (t : Th) (op a b c : Nat) (k addr : Int) : SeesI Z m (plainR (sOps B) s t op a b c k addr).2 := by
  unfold plainR
  repeat' split
  all_goals first
    | exact h
    | exact h.other s.who _ ⟨by decide, by decide, by decide, by decide⟩
    | exact h.other s.who _ ⟨by show (5 : Int) ≠ _; decide, by show (5 : Int) ≠ _; decide, by show (5 : Int) ≠ _; decide, by show (5 : Int) ≠ _; decide⟩
    | exact h.other s.who _ ⟨by show (6 : Int) ≠ _; decide, by show (6 : Int) ≠ _; decide, by show (6 : Int) ≠ _; decide, by show (6 : Int) ≠ _; decide⟩
    | exact h.other s.who _ ⟨by show (7 : Int) ≠ _; decide, by show (7 : Int) ≠ _; decide, by show (7 : Int) ≠ _; decide, by show (7 : Int) ≠ _; decide⟩
    | exact h.other s.who _ ⟨by show (10 : Int) ≠ _; decide, by show (10 : Int) ≠ _; decide, by show (10 : Int) ≠ _; decide, by show (10 : Int) ≠ _; decide⟩
theorem addrF_rv (t : Th) (ht : RegsOk t) (i : Ins) (hk : RV i.k) : RV (addrF t i) := by
  unfold addrF
  split
  · exact RV.alu 3 (ht _)
  · exact hk
theorem SeesI.step {B : MB} (hB : B.m = m) (h : SeesI Z m s) (t : Th) (ht : RegsOk t) (c : Cd) (hc : c.Ok) : SeesI Z m (stepR (sOps B) s t c).2 := by
  have k12 : ∀ (x : Evt), x.kind = 12 ∨ x.kind = 13 → SeesI Z m (noteM s.who s x) := fun x hx => h.other s.who x (by rcases hx with e | e <;> rw [e] <;> decide)
  unfold stepR
  split
  · exact h
  split
  · exact k12 _ (.inl rfl)
  split
  · exact k12 _ (.inr rfl)
  rename_i h0 hpc hr
  split
  · exact k12 _ (.inr rfl)
  rename_i hbig
  have hins := hc.ins t.pc.toNat (by omega)
  have hrv := addrF_rv t ht (c.F t.pc.toNat) ⟨hins.k0, hins.k1⟩
  unfold insR
  split
  · exact h
  split
  · exact h
  split
  · exact k12 _ (.inl rfl)
  split
  · exact h
  split
  · rename_i hk
    refine h.asks hB t _ _ _ _ ?_
    have hlt : addrF t (c.F t.pc.toNat) < ((sOps B).size : Int) := by
      by_cases q : ((sOps B).size : Int) ≤ addrF t (c.F t.pc.toNat)
      · exact absurd ⟨hk, q⟩ hbig
      · omega
    have hs : ((sOps B).size : Int) = (m : Int) := by show (B.m : Int) = _; rw [hB]
    rw [hs] at hlt
    have := hrv.1
    omega
  · exact h.plain t _ _ _ _ _ _
theorem SeesI.pick {B : MB} (hMB : MBok B) (hB : B.m = m) (h : SeesI Z m s) (ho : MOk B s) (x : Int × Int) : SeesI Z m (sPick B s x) := by
  unfold sPick
  split
  · exact h
  rename_i hx
  have hw : SeesI Z m { s with who := x.2 } := h.congr rfl rfl
  split
  · unfold sStep
    have ht : x.2.toNat < B.codes.length := by have := ho.nt; omega
    exact (hw.step hB (s.ths.getD x.2.toNat tha) (ho.getTh _) (B.codes.getD x.2.toNat cdd) (hMB.cods _ (getD_mem ht))).congr rfl rfl
  split
  · unfold rouseM
    split
    · refine SeesI.other ?_ _ _ ⟨by show (11 : Int) ≠ _; decide, by show (11 : Int) ≠ _; decide, by show (11 : Int) ≠ _; decide, by show (11 : Int) ≠ _; decide⟩
      exact hw.congr rfl rfl
    · exact hw
  · exact hw
end
theorem sees_run {B : MB} (hMB : MBok B) {Z : Nat → Int} {m : Nat} (hB : B.m = m) : ∀ (l : List (Int × Int)) (s : Mst), SeesI Z m s → MOk B s → SeesI Z m (sRun B s l)
  | [], s, h, _ => h
  | x :: l, s, h, ho => sees_run hMB hB l _ (h.pick hMB hB ho x) (sPick_ok hMB ho x)
theorem sees_start (p : Pg) : SeesI p.Z p.m (s0 p) where
  len := by show ((List.range p.m).map p.Z).length = p.m; simp
  mem := fun a ha => by
    show ((List.range p.m).map p.Z).getD a 0 = p.Z a
    simp [List.getD_eq_getElem?_getD, ha]
  ev := fun i hi => absurd hi (by show ¬ i < 0; omega)
end Go.Proofs.YtjmnogpnjombgaaDoor
