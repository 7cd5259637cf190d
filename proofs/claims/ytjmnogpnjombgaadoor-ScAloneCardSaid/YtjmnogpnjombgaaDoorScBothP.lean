/- law10 (plain): two threads that each store, and load the other's word: one sees the other's. -/
import Derived.Test.YtjmnogpnjombgaaDoorScBoth
namespace Go.Proofs.YtjmnogpnjombgaaDoor
open Go.ChangeShapes Go.WideShapes Go.ChangeAt Go.RowKit Go.Deep
set_option linter.unusedVariables false
set_option maxRecDepth 100000
set_option linter.unusedSimpArgs false

theorem fSide_right : (∀ i, i < 3 → rightB (fSide 0 1 i) ((3 : Nat) : Int) = true) ∧ ∀ i, i < 3 → rightB (fSide 1 0 i) ((3 : Nat) : Int) = true := by decide +kernel
/-- What a side's thread is like. -/
inductive SideT : Th → Prop
  | p0 (r : Nat → Int) : SideT ⟨0, r, 0⟩
  | p1 (r : Nat → Int) : r 1 = 1 → SideT ⟨1, r, 0⟩
  | p2 (r : Nat → Int) : SideT ⟨2, r, 0⟩
  | p3 (r : Nat → Int) : SideT ⟨3, r, 0⟩
  | p4 (r : Nat → Int) : SideT ⟨3, r, 2⟩
section
variable {B : MB} {s : Mst} {cd : Cd} {a b : Nat} {r : Nat → Int}
/-- A step of a side. -/
theorem side_s0 (hl : cd.len = 3) (hF : cd.F = fSide a b) (hab : (a = 0 ∧ b = 1) ∨ (a = 1 ∧ b = 0)) : stepR (sOps B) s ⟨0, r, 0⟩ cd = (⟨1, updR r 1 1, 0⟩, s) := by
  have hr : rightB (fSide a b 0) ((3 : Nat) : Int) = true := by
    rcases hab with ⟨rfl, rfl⟩ | ⟨rfl, rfl⟩
    · exact fSide_right.1 0 (by decide)
    · exact fSide_right.2 0 (by decide)
  unfold stepR
  rw [if_neg (by simp), if_neg (by rw [hl]; show ¬ ((0 : Int) < 0 ∨ ((3 : Nat) : Int) ≤ 0); omega), hF, hl]
  show (if rightB (fSide a b 0) _ = false then _ else _) = _
  rw [hr, if_neg (by decide), if_neg (by intro h; have h2 : askB 1 = true := h.1; exact absurd h2 (by decide))]
  rfl
theorem side_s1 (hm : B.m = 2) (hl : cd.len = 3) (hF : cd.F = fSide a b) (hab : (a = 0 ∧ b = 1) ∨ (a = 1 ∧ b = 0)) (h1 : r 1 = 1) : stepR (sOps B) s ⟨1, r, 0⟩ cd = (⟨2, r, 0⟩, noteM s.who { s with mem := s.mem.set a 1 } ⟨2, 0, 1, (a : Int), 1, 0, 0, false⟩) := by
  have hr : rightB (fSide a b 1) ((3 : Nat) : Int) = true := by
    rcases hab with ⟨rfl, rfl⟩ | ⟨rfl, rfl⟩
    · exact fSide_right.1 1 (by decide)
    · exact fSide_right.2 1 (by decide)
  unfold stepR
  rw [if_neg (by simp), if_neg (by rw [hl]; show ¬ ((1 : Int) < 0 ∨ ((3 : Nat) : Int) ≤ 1); omega), hF, hl]
  show (if rightB (fSide a b 1) _ = false then _ else _) = _
  have ha : addrF ⟨1, r, 0⟩ (fSide a b 1) = (a : Int) := rfl
  rw [hr, if_neg (by decide), if_neg (by intro h; have h2 := h.2; have h3 : ((sOps B).size : Int) = 2 := by show (B.m : Int) = 2; omega
                                         rw [h3] at h2; have h4 : (2 : Int) ≤ (a : Int) := h2; omega)]
  show insR (sOps B) s ⟨1, r, 0⟩ (fSide a b 1) = _
  have e : insR (sOps B) s ⟨1, r, 0⟩ (fSide a b 1) = (⟨2, r, 0⟩, noteM s.who { s with mem := s.mem.set (a : Int).toNat (r 1) } ⟨2, 0, 1, (((a : Int).toNat : Nat) : Int), r 1, 0, 0, false⟩) := rfl
  rw [e, h1, Int.toNat_natCast]
theorem side_s2 (hm : B.m = 2) (hl : cd.len = 3) (hF : cd.F = fSide a b) (hab : (a = 0 ∧ b = 1) ∨ (a = 1 ∧ b = 0)) : stepR (sOps B) s ⟨2, r, 0⟩ cd = (⟨3, updR r 2 (s.mem.getD b 0), 0⟩, noteM s.who s ⟨1, 0, 2, (b : Int), s.mem.getD b 0, 0, 0, false⟩) := by
  have hr : rightB (fSide a b 2) ((3 : Nat) : Int) = true := by
    rcases hab with ⟨rfl, rfl⟩ | ⟨rfl, rfl⟩
    · exact fSide_right.1 2 (by decide)
    · exact fSide_right.2 2 (by decide)
  unfold stepR
  rw [if_neg (by simp), if_neg (by rw [hl]; show ¬ ((2 : Int) < 0 ∨ ((3 : Nat) : Int) ≤ 2); omega), hF, hl]
  show (if rightB (fSide a b 2) _ = false then _ else _) = _
  have ha : addrF ⟨2, r, 0⟩ (fSide a b 2) = (b : Int) := rfl
  rw [hr, if_neg (by decide), if_neg (by intro h; have h2 := h.2; have h3 : ((sOps B).size : Int) = 2 := by show (B.m : Int) = 2; omega
                                         rw [h3] at h2; have h4 : (2 : Int) ≤ (b : Int) := h2; omega)]
  show insR (sOps B) s ⟨2, r, 0⟩ (fSide a b 2) = _
  have e : insR (sOps B) s ⟨2, r, 0⟩ (fSide a b 2) = (⟨3, updR r 2 (s.mem.getD (b : Int).toNat 0), 0⟩, noteM s.who s ⟨1, 0, 2, (((b : Int).toNat : Nat) : Int), s.mem.getD (b : Int).toNat 0, 0, 0, false⟩) := rfl
  rw [e, Int.toNat_natCast]
theorem side_s3 (hl : cd.len = 3) : stepR (sOps B) s ⟨3, r, 0⟩ cd = (⟨3, r, 2⟩, noteM s.who s ⟨12, 0, 3, 0, 0, 0, 0, false⟩) := by
  unfold stepR
  rw [if_neg (by simp), if_pos (by rw [hl]; show (3 : Int) < 0 ∨ ((3 : Nat) : Int) ≤ 3; omega)]
  rfl
theorem side_s4 : stepR (sOps B) s ⟨3, r, 2⟩ cd = (⟨3, r, 2⟩, s) := by
  unfold stepR
  rw [if_pos (by simp)]
end

/-- Two sides, as they stand. -/
structure BothB (B : MB) : Prop where
  m : B.m = 2
  n : B.codes.length = 2
  l0 : (B.codes.getD 0 cdd).len = 3
  l1 : (B.codes.getD 1 cdd).len = 3
  F0 : (B.codes.getD 0 cdd).F = fSide ((0 : Nat) : Int) ((1 : Nat) : Int)
  F1 : (B.codes.getD 1 cdd).F = fSide ((1 : Nat) : Int) ((0 : Nat) : Int)
def wordOf (t : Th) : Int := if 2 ≤ t.pc then 1 else 0
/-- What holds of two sides at all times. -/
def BothI (s : Mst) : Prop := ∃ t0 t1 evs who, s = ⟨[t0, t1], [], [wordOf t0, wordOf t1], [], evs, who⟩ ∧ SideT t0 ∧ SideT t1 ∧ (t0.pc = 3 → t1.pc = 3 → t0.regs 2 = 1 ∨ t1.regs 2 = 1)
theorem both_step {B : MB} (hB : BothB B) {s : Mst} (h : BothI s) (w : Int) (hw : w = 0 ∨ w = 1) : BothI (sPick B s (0, w)) := by
  obtain ⟨t0, t1, evs, who, rfl, h0, h1, h3⟩ := h
  rcases hw with rfl | rfl
  · have e : sPick B ⟨[t0, t1], [], [wordOf t0, wordOf t1], [], evs, who⟩ (0, 0) = (let r := stepR (sOps B) ⟨[t0, t1], [], [wordOf t0, wordOf t1], [], evs, 0⟩ t0 (B.codes.getD 0 cdd); { r.2 with ths := r.2.ths.set 0 r.1 }) := rfl
    rw [e]
    cases h0 with
    | p0 r =>
      rw [side_s0 hB.l0 hB.F0 (.inl ⟨rfl, rfl⟩)]
      exact ⟨_, t1, _, _, rfl, .p1 _ rfl, h1, fun q => absurd (show (1 : Int) = 3 from q) (by decide)⟩
    | p1 r hr =>
      rw [side_s1 hB.m hB.l0 hB.F0 (.inl ⟨rfl, rfl⟩) hr]
      exact ⟨_, t1, _, _, rfl, .p2 _, h1, fun q => absurd (show (2 : Int) = 3 from q) (by decide)⟩
    | p2 r =>
      rw [side_s2 hB.m hB.l0 hB.F0 (.inl ⟨rfl, rfl⟩)]
      refine ⟨_, t1, _, _, rfl, .p3 _, h1, fun _ q => .inl ?_⟩
      show wordOf t1 = 1
      unfold wordOf
      rw [q]; rfl
    | p3 r =>
      rw [side_s3 hB.l0]
      exact ⟨_, t1, _, _, rfl, .p4 _, h1, h3⟩
    | p4 r =>
      rw [side_s4]
      exact ⟨_, t1, _, _, rfl, .p4 _, h1, h3⟩
  · have e : sPick B ⟨[t0, t1], [], [wordOf t0, wordOf t1], [], evs, who⟩ (0, 1) = (let r := stepR (sOps B) ⟨[t0, t1], [], [wordOf t0, wordOf t1], [], evs, 1⟩ t1 (B.codes.getD 1 cdd); { r.2 with ths := r.2.ths.set 1 r.1 }) := rfl
    rw [e]
    cases h1 with
    | p0 r =>
      rw [side_s0 hB.l1 hB.F1 (.inr ⟨rfl, rfl⟩)]
      exact ⟨t0, _, _, _, rfl, h0, .p1 _ rfl, fun _ q => absurd (show (1 : Int) = 3 from q) (by decide)⟩
    | p1 r hr =>
      rw [side_s1 hB.m hB.l1 hB.F1 (.inr ⟨rfl, rfl⟩) hr]
      exact ⟨t0, _, _, _, rfl, h0, .p2 _, fun _ q => absurd (show (2 : Int) = 3 from q) (by decide)⟩
    | p2 r =>
      rw [side_s2 hB.m hB.l1 hB.F1 (.inr ⟨rfl, rfl⟩)]
      refine ⟨t0, _, _, _, rfl, h0, .p3 _, fun q _ => .inr ?_⟩
      show wordOf t0 = 1
      unfold wordOf
      rw [q]; rfl
    | p3 r =>
      rw [side_s3 hB.l1]
      exact ⟨t0, _, _, _, rfl, h0, .p4 _, h3⟩
    | p4 r =>
      rw [side_s4]
      exact ⟨t0, _, _, _, rfl, h0, .p4 _, h3⟩
theorem both_run {B : MB} (hB : BothB B) : ∀ (l : List (Int × Int)) (s : Mst), BothI s → (∀ x ∈ l, x.1 = 0 ∧ (x.2 = 0 ∨ x.2 = 1)) → BothI (sRun B s l)
  | [], s, h, _ => h
  | x :: l, s, h, hl => both_run hB l _ (by
      obtain ⟨h1, h2⟩ := hl x (by simp)
      have := both_step hB h x.2 h2
      rwa [show ((0, x.2) : Int × Int) = x by rw [← h1]] at this) (fun y hy => hl y (by simp [hy]))
theorem pBoth_s0 (ab g0 g1 mb : Nat) : s0 (pBoth ab g0 g1 mb) = ⟨[tha, tha], [], [0, 0], [], [], 0⟩ := rfl
theorem both_start (ab g0 g1 mb : Nat) : BothI (s0 (pBoth ab g0 g1 mb)) := ⟨tha, tha, [], 0, pBoth_s0 ab g0 g1 mb, .p0 _, .p0 _, fun h => absurd h (by decide)⟩
theorem bothB_of {ab g0 g1 mb : Nat} {B : MB} (h : NewM (pBoth ab g0 g1 mb) B) : BothB B where
  m := h.m
  n := h.n
  l0 := (h.cd 0 (by show 0 < 2; decide)).1
  l1 := (h.cd 1 (by show 1 < 2; decide)).1
  F0 := (h.cd 0 (by show 0 < 2; decide)).2.1
  F1 := (h.cd 1 (by show 1 < 2; decide)).2.1
theorem s0_ok {p : Pg} {B : MB} (ho : p.Ok) (h : NewM p B) : MOk B (s0 p) where
  nt := by show (List.replicate p.n tha).length = _; rw [List.length_replicate, h.n]
  regs := fun t ht => by rw [(List.mem_replicate.1 ht).2]; exact tha_regs
  mem := fun z hz => by
    obtain ⟨i, hi, rfl⟩ := List.mem_map.1 hz
    exact ho.z0 i (List.mem_range.1 hi)
  buf := fun b hb => by cases hb
  slp := ⟨List.nodup_nil, fun x hx => by cases hx⟩
theorem s0_can {p : Pg} {B : MB} (hn : p.n ≤ 8) (n : Nat) (h : n ≤ 9000) : mCan B n (s0 p) :=
  ⟨by show 0 + 0 + n ≤ _; omega, by show 0 + n ≤ _; omega, fun x hx => (by cases hx), fun b hb => (by cases hb), by show (List.replicate p.n tha).length ≤ 8; rw [List.length_replicate]; exact hn⟩
/-- Six steps, turns about. -/
def turns6 : List (Int × Int) := [(0, 0), (0, 1), (0, 0), (0, 1), (0, 0), (0, 1)]
theorem both_six {B : MB} (hB : BothB B) (ab g0 g1 mb : Nat) : ((sRun B (s0 (pBoth ab g0 g1 mb)) turns6).ths.getD 0 tha).regs 2 = 1 ∧ ((sRun B (s0 (pBoth ab g0 g1 mb)) turns6).ths.getD 1 tha).regs 2 = 1 ∧ (sRun B (s0 (pBoth ab g0 g1 mb)) turns6).evs.length = 4 := by
  rw [pBoth_s0]
  have e0 : ∀ (t0 t1 : Th) (m : List Int) (evs : List Evt) (who : Int), sPick B ⟨[t0, t1], [], m, [], evs, who⟩ (0, 0) = (let r := stepR (sOps B) ⟨[t0, t1], [], m, [], evs, 0⟩ t0 (B.codes.getD 0 cdd); { r.2 with ths := r.2.ths.set 0 r.1 }) := fun _ _ _ _ _ => rfl
  have e1 : ∀ (t0 t1 : Th) (m : List Int) (evs : List Evt) (who : Int), sPick B ⟨[t0, t1], [], m, [], evs, who⟩ (0, 1) = (let r := stepR (sOps B) ⟨[t0, t1], [], m, [], evs, 1⟩ t1 (B.codes.getD 1 cdd); { r.2 with ths := r.2.ths.set 1 r.1 }) := fun _ _ _ _ _ => rfl
  have a1 : sRun B ⟨[tha, tha], [], [0, 0], [], [], 0⟩ turns6 = sRun B ⟨[⟨1, updR tha.regs 1 1, 0⟩, tha], [], [0, 0], [], [], 0⟩ [(0, 1), (0, 0), (0, 1), (0, 0), (0, 1)] := by
    show sRun B (sPick B _ (0, 0)) _ = _
    rw [e0, show tha = ⟨0, tha.regs, 0⟩ from rfl, side_s0 hB.l0 hB.F0 (.inl ⟨rfl, rfl⟩)]
    rfl
  rw [a1]
  have a2 : sRun B ⟨[⟨1, updR tha.regs 1 1, 0⟩, tha], [], [0, 0], [], [], 0⟩ [(0, 1), (0, 0), (0, 1), (0, 0), (0, 1)] = sRun B ⟨[⟨1, updR tha.regs 1 1, 0⟩, ⟨1, updR tha.regs 1 1, 0⟩], [], [0, 0], [], [], 1⟩ [(0, 0), (0, 1), (0, 0), (0, 1)] := by
    show sRun B (sPick B _ (0, 1)) _ = _
    rw [e1, show tha = ⟨0, tha.regs, 0⟩ from rfl, side_s0 hB.l1 hB.F1 (.inr ⟨rfl, rfl⟩)]
    rfl
  rw [a2]
  have a3 : ∃ ev, sRun B ⟨[⟨1, updR tha.regs 1 1, 0⟩, ⟨1, updR tha.regs 1 1, 0⟩], [], [0, 0], [], [], 1⟩ [(0, 0), (0, 1), (0, 0), (0, 1)] = sRun B ⟨[⟨2, updR tha.regs 1 1, 0⟩, ⟨1, updR tha.regs 1 1, 0⟩], [], [1, 0], [], [ev], 0⟩ [(0, 1), (0, 0), (0, 1)] := by
    show ∃ ev, sRun B (sPick B _ (0, 0)) _ = _
    rw [e0, side_s1 (r := updR tha.regs 1 1) hB.m hB.l0 hB.F0 (.inl ⟨rfl, rfl⟩) rfl]
    exact ⟨_, rfl⟩
  obtain ⟨v1, a3⟩ := a3
  rw [a3]
  have a4 : ∃ ev, sRun B ⟨[⟨2, updR tha.regs 1 1, 0⟩, ⟨1, updR tha.regs 1 1, 0⟩], [], [1, 0], [], [v1], 0⟩ [(0, 1), (0, 0), (0, 1)] = sRun B ⟨[⟨2, updR tha.regs 1 1, 0⟩, ⟨2, updR tha.regs 1 1, 0⟩], [], [1, 1], [], [v1, ev], 1⟩ [(0, 0), (0, 1)] := by
    show ∃ ev, sRun B (sPick B _ (0, 1)) _ = _
    rw [e1, side_s1 (r := updR tha.regs 1 1) hB.m hB.l1 hB.F1 (.inr ⟨rfl, rfl⟩) rfl]
    exact ⟨_, rfl⟩
  obtain ⟨v2, a4⟩ := a4
  rw [a4]
  have a5 : ∃ ev, sRun B ⟨[⟨2, updR tha.regs 1 1, 0⟩, ⟨2, updR tha.regs 1 1, 0⟩], [], [1, 1], [], [v1, v2], 1⟩ [(0, 0), (0, 1)] = sRun B ⟨[⟨3, updR (updR tha.regs 1 1) 2 1, 0⟩, ⟨2, updR tha.regs 1 1, 0⟩], [], [1, 1], [], [v1, v2, ev], 0⟩ [(0, 1)] := by
    show ∃ ev, sRun B (sPick B _ (0, 0)) _ = _
    rw [e0, side_s2 hB.m hB.l0 hB.F0 (.inl ⟨rfl, rfl⟩)]
    exact ⟨_, rfl⟩
  obtain ⟨v3, a5⟩ := a5
  rw [a5]
  have a6 : ∃ ev, sRun B ⟨[⟨3, updR (updR tha.regs 1 1) 2 1, 0⟩, ⟨2, updR tha.regs 1 1, 0⟩], [], [1, 1], [], [v1, v2, v3], 0⟩ [(0, 1)] = ⟨[⟨3, updR (updR tha.regs 1 1) 2 1, 0⟩, ⟨3, updR (updR tha.regs 1 1) 2 1, 0⟩], [], [1, 1], [], [v1, v2, v3, ev], 1⟩ := by
    have e9 : ∀ X, sRun B X [(0, 1)] = sPick B X (0, 1) := fun _ => rfl
    rw [e9, e1, side_s2 hB.m hB.l1 hB.F1 (.inr ⟨rfl, rfl⟩)]
    exact ⟨_, rfl⟩
  obtain ⟨v4, a6⟩ := a6
  rw [a6]
  exact ⟨rfl, rfl, rfl⟩
end Go.Proofs.YtjmnogpnjombgaaDoor
