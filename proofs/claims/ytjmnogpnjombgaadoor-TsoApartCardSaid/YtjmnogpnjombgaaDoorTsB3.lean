/- law09: two sides with buffers, and six steps of them (plain). law09: awake. -/
import Derived.Test.YtjmnogpnjombgaaDoorTsTz
namespace Go.Proofs.YtjmnogpnjombgaaDoor
open Go.ChangeShapes Go.WideShapes Go.ChangeAt Go.RowKit Go.Deep
set_option linter.unusedVariables false
set_option maxRecDepth 100000
set_option linter.unusedSimpArgs false

/-- A side's code. -/
def fSide (a b : Int) (i : Nat) : Ins := if i = 0 then ⟨1, 1, 0, 0, 1⟩ else if i = 1 then ⟨17, 1, 8, 0, a⟩ else ⟨16, 2, 8, 0, b⟩
def sideArr (a b : Int) : Array Value := #[.int .i64 1, .int .i64 1, .int .i64 0, .int .i64 0, .int .u32 1, .int .i64 17, .int .i64 1, .int .i64 8, .int .i64 0, .int .u32 a, .int .i64 16, .int .i64 2, .int .i64 8, .int .i64 0, .int .u32 b]
theorem side_any (a b : Int) (w : World) :
    Calls Tryd.prog 85 #[.int .u32 a, .int .u32 b] w fun e w' => ∃ g, e = .returned (.slice (some ⟨g, 0, none⟩) 3 3) ∧ Blk w' g 54 (sideArr a b) ∧ Below w.heap.size w w' := by
  have hX := Blk.new w 54 (sideArr a b)
  have hal := (Below.refl w.heap.size w).alloc (Nat.le_refl _) (.cells (sideArr a b) 54)
  unfold sideArr at hX hal
  unfold sideArr
  go_enter Tryd.func85, Tryd.ntmps85
  go_wp2
  go_ret
  exact ⟨_, rfl, hX, hal⟩
theorem side_at {W : World} {g : Nat} {a b : Int} (h : Blk W g 54 (sideArr a b)) : (⟨some ⟨g, 0, none⟩, 3, 3, fSide a b⟩ : Cd).At W := fun _ => ⟨g, 0, rfl, h.lt, fun i hi j u hu => by
  have hi : i < 3 := hi
  have hj : j < 5 := (List.getElem?_eq_some_iff.1 hu).1
  rw [h.cell]
  rcases (by omega : i = 0 ∨ i = 1 ∨ i = 2) with rfl | rfl | rfl <;> rcases (by omega : j = 0 ∨ j = 1 ∨ j = 2 ∨ j = 3 ∨ j = 4) with rfl | rfl | rfl | rfl | rfl <;> exact hu⟩
theorem side_ok (a b : Int) (ha : 0 ≤ a ∧ a ≤ 1) (hb : 0 ≤ b ∧ b ≤ 1) (g : Nat) : (⟨some ⟨g, 0, none⟩, 3, 3, fSide a b⟩ : Cd).Ok where
  hl := Nat.le_refl _
  hm := by show 3 ≤ maxLen; unfold maxLen; omega
  ins := fun i hi => by
    show (fSide a b i).Ok
    unfold fSide
    split
    · exact insOk (by omega)
    split
    · exact insOk (by omega)
    · exact insOk (by omega)
/-- The program of two sides. -/
def pBoth (ab g0 g1 mb : Nat) : Pg := ⟨some ⟨ab, 0, none⟩, 2, 2, fun t => if t = 0 then ⟨some ⟨g0, 0, none⟩, 3, 3, fSide 0 1⟩ else ⟨some ⟨g1, 0, none⟩, 3, 3, fSide 1 0⟩, some ⟨mb, 0, none⟩, 2, 2, fun _ => 0, 1⟩
theorem pBoth_ok (ab g0 g1 mb : Nat) : (pBoth ab g0 g1 mb).Ok where
  hl := Nat.le_refl _
  hm := by show 2 ≤ maxLen; unfold maxLen; omega
  ml := Nat.le_refl _
  mm := by show 2 ≤ maxLen; unfold maxLen; omega
  cds := fun t ht => by
    show (if t = 0 then _ else _ : Cd).Ok
    split
    · exact side_ok 0 1 (by omega) (by omega) g0
    · exact side_ok 1 0 (by omega) (by omega) g1
  z0 := fun i hi => ⟨Int.le_refl _, by show (0 : Int) ≤ _; omega⟩
  r0 := by show _ ≤ (1 : Int); omega
  r1 := by show (1 : Int) ≤ _; omega
theorem pBoth_chk (ab g0 g1 mb : Nat) : Chk (pBoth ab g0 g1 mb) 0 0 0 := by
  refine .fine (by show 1 ≤ 2; omega) (by show 2 ≤ 8; omega) (by show (1 : Int) ≤ 1; omega) (by show (1 : Int) ≤ 16; omega) (by show 2 ≤ 1024; omega) (fun t ht => ?_)
  show goodCd (if t = 0 then _ else _ : Cd)
  split
  · refine ⟨by show 3 ≤ 4000; omega, fun i hi => ?_⟩
    have hi : i < 3 := hi
    show rightB (fSide 0 1 i) ((3 : Nat) : Int) = true
    rcases (by omega : i = 0 ∨ i = 1 ∨ i = 2) with rfl | rfl | rfl <;> decide +kernel
  · refine ⟨by show 3 ≤ 4000; omega, fun i hi => ?_⟩
    have hi : i < 3 := hi
    show rightB (fSide 1 0 i) ((3 : Nat) : Int) = true
    rcases (by omega : i = 0 ∨ i = 1 ∨ i = 2) with rfl | rfl | rfl <;> decide +kernel
theorem pBoth_at {W : World} {ab g0 g1 mb : Nat} (h0 : Blk W g0 54 (sideArr 0 1)) (h1 : Blk W g1 54 (sideArr 1 0)) (ha : Blk W ab 26 #[.slice (some ⟨g0, 0, none⟩) 3 3, .slice (some ⟨g1, 0, none⟩) 3 3])
    (hm : Blk W mb 22 #[.int .u32 0, .int .u32 0]) : (pBoth ab g0 g1 mb).At W where
  codes := fun _ => ⟨ab, 0, rfl, ha.lt, fun i hi => by
    have hi : i < 2 := hi
    rw [ha.cell]
    rcases (by omega : i = 0 ∨ i = 1) with rfl | rfl <;> rfl⟩
  code := fun t ht => by
    show (if t = 0 then _ else _ : Cd).At W
    split
    · exact side_at h0
    · exact side_at h1
  mem := fun _ => ⟨mb, 0, rfl, hm.lt, fun i hi => by
    have hi : i < 2 := hi
    rw [hm.cell]
    rcases (by omega : i = 0 ∨ i = 1) with rfl | rfl <;> rfl⟩
theorem fSide_right : (∀ i, i < 3 → rightB (fSide 0 1 i) ((3 : Nat) : Int) = true) ∧ ∀ i, i < 3 → rightB (fSide 1 0 i) ((3 : Nat) : Int) = true := by decide +kernel
section
variable {B : MB} {s : Mst} {cd : Cd} {a b t : Nat} {r : Nat → Int}
theorem tside_s0 (hl : cd.len = 3) (hF : cd.F = fSide a b) (hab : (a = 0 ∧ b = 1) ∨ (a = 1 ∧ b = 0)) : stepR (tOps B t) s ⟨0, r, 0⟩ cd = (⟨1, updR r 1 1, 0⟩, s) := by
  have hr : rightB (fSide a b 0) ((3 : Nat) : Int) = true := by
    rcases hab with ⟨rfl, rfl⟩ | ⟨rfl, rfl⟩
    · exact fSide_right.1 0 (by decide)
    · exact fSide_right.2 0 (by decide)
  unfold stepR
  rw [if_neg (by simp), if_neg (by rw [hl]; show ¬ ((0 : Int) < 0 ∨ ((3 : Nat) : Int) ≤ 0); omega), hF, hl]
  show (if rightB (fSide a b 0) _ = false then _ else _) = _
  rw [hr, if_neg (by decide), if_neg (by intro h; have h2 : askB 1 = true := h.1; exact absurd h2 (by decide))]
  show insR (tOps B t) s ⟨0, r, 0⟩ (fSide a b 0) = _
  unfold insR
  rw [if_neg (fun h => by have h1 : DrainP 1 := h.1; unfold DrainP at h1; omega), if_neg (fun h => by have h1 : (1 : Int) = 17 := h.1; omega)]
  rfl
theorem tside_s1 (hm : B.m = 2) (hro : B.room = 1) (hb : s.bufs.getD t [] = []) (hl : cd.len = 3) (hF : cd.F = fSide a b) (hab : (a = 0 ∧ b = 1) ∨ (a = 1 ∧ b = 0)) (h1 : r 1 = 1) : stepR (tOps B t) s ⟨1, r, 0⟩ cd = (⟨2, r, 0⟩, noteM (t : Int) { s with bufs := s.bufs.set t [((a : Int), 1)] } ⟨2, 0, 1, (a : Int), 1, 0, 0, false⟩) := by
  have hr : rightB (fSide a b 1) ((3 : Nat) : Int) = true := by
    rcases hab with ⟨rfl, rfl⟩ | ⟨rfl, rfl⟩
    · exact fSide_right.1 1 (by decide)
    · exact fSide_right.2 1 (by decide)
  have hst : (tOps B t).store s a 1 = { s with bufs := s.bufs.set t [((a : Int), 1)] } := by
    show (if a < B.m then _ else s) = _
    rw [if_pos (by omega), hb]
    rfl
  unfold stepR
  rw [if_neg (by simp), if_neg (by rw [hl]; show ¬ ((1 : Int) < 0 ∨ ((3 : Nat) : Int) ≤ 1); omega), hF, hl]
  show (if rightB (fSide a b 1) _ = false then _ else _) = _
  have ha : addrF ⟨1, r, 0⟩ (fSide a b 1) = (a : Int) := rfl
  rw [hr, if_neg (by decide), if_neg (by intro h; have h2 := h.2; have h3 : ((tOps B t).size : Int) = 2 := by show (B.m : Int) = 2; omega
                                         rw [h3] at h2; have h4 : (2 : Int) ≤ (a : Int) := h2; omega)]
  show insR (tOps B t) s ⟨1, r, 0⟩ (fSide a b 1) = _
  unfold insR
  rw [if_neg (fun h => by have h1 : DrainP 17 := h.1; unfold DrainP at h1; omega), if_neg (fun h => by have h2 : decide (((s.bufs.getD t []).length : Int) < B.room) = false := h.2; rw [hb, hro] at h2; exact absurd h2 (by decide))]
  have e : ∀ v : Int, v = r 1 → (⟨2, r, 0⟩, noteM (t : Int) ((tOps B t).store s (a : Int).toNat v) ⟨2, 0, 1, (((a : Int).toNat : Nat) : Int), v, 0, 0, false⟩) = ((⟨2, r, 0⟩, noteM (t : Int) { s with bufs := s.bufs.set t [((a : Int), 1)] } ⟨2, 0, 1, (a : Int), 1, 0, 0, false⟩) : Th × Mst) := fun v hv => by
    rw [hv, h1, Int.toNat_natCast, hst]
  exact e (r 1) rfl
theorem tside_s2 (hm : B.m = 2) (hb : s.bufs.getD t [] = [((a : Int), 1)]) (hl : cd.len = 3) (hF : cd.F = fSide a b) (hab : (a = 0 ∧ b = 1) ∨ (a = 1 ∧ b = 0)) : stepR (tOps B t) s ⟨2, r, 0⟩ cd = (⟨3, updR r 2 (s.mem.getD b 0), 0⟩, noteM (t : Int) s ⟨1, 0, 2, (b : Int), s.mem.getD b 0, 0, 0, false⟩) := by
  have hr : rightB (fSide a b 2) ((3 : Nat) : Int) = true := by
    rcases hab with ⟨rfl, rfl⟩ | ⟨rfl, rfl⟩
    · exact fSide_right.1 2 (by decide)
    · exact fSide_right.2 2 (by decide)
  have hse : seeM t s b = s.mem.getD b 0 := by
    unfold seeM
    rw [hb]
    rcases hab with ⟨rfl, rfl⟩ | ⟨rfl, rfl⟩ <;> rfl
  unfold stepR
  rw [if_neg (by simp), if_neg (by rw [hl]; show ¬ ((2 : Int) < 0 ∨ ((3 : Nat) : Int) ≤ 2); omega), hF, hl]
  show (if rightB (fSide a b 2) _ = false then _ else _) = _
  have ha : addrF ⟨2, r, 0⟩ (fSide a b 2) = (b : Int) := rfl
  rw [hr, if_neg (by decide), if_neg (by intro h; have h2 := h.2; have h3 : ((tOps B t).size : Int) = 2 := by show (B.m : Int) = 2; omega
                                         rw [h3] at h2; have h4 : (2 : Int) ≤ (b : Int) := h2; omega)]
  show insR (tOps B t) s ⟨2, r, 0⟩ (fSide a b 2) = _
  unfold insR
  rw [if_neg (fun h => by have h1 : DrainP 16 := h.1; unfold DrainP at h1; omega), if_neg (fun h => by have h1 : (16 : Int) = 17 := h.1; omega)]
  have e : ∀ v : Int, v = seeM t s (b : Int).toNat → (⟨3, updR r 2 v, 0⟩, noteM (t : Int) s ⟨1, 0, 2, (((b : Int).toNat : Nat) : Int), v, 0, 0, false⟩) = ((⟨3, updR r 2 (s.mem.getD b 0), 0⟩, noteM (t : Int) s ⟨1, 0, 2, (b : Int), s.mem.getD b 0, 0, 0, false⟩) : Th × Mst) := fun v hv => by
    rw [hv, Int.toNat_natCast, hse]
  exact e _ rfl
end
/-- Two sides, as they stand. -/
structure BothB (B : MB) : Prop where
  m : B.m = 2
  room : B.room = 1
  n : B.codes.length = 2
  l0 : (B.codes.getD 0 cdd).len = 3
  l1 : (B.codes.getD 1 cdd).len = 3
  F0 : (B.codes.getD 0 cdd).F = fSide ((0 : Nat) : Int) ((1 : Nat) : Int)
  F1 : (B.codes.getD 1 cdd).F = fSide ((1 : Nat) : Int) ((0 : Nat) : Int)
theorem bothB_of {ab g0 g1 mb : Nat} {B : MB} (h : NewM (pBoth ab g0 g1 mb) B) (hr : B.room = 1) : BothB B where
  m := h.m
  room := hr
  n := h.n
  l0 := (h.cd 0 (by show 0 < 2; decide)).1
  l1 := (h.cd 1 (by show 1 < 2; decide)).1
  F0 := (h.cd 0 (by show 0 < 2; decide)).2.1
  F1 := (h.cd 1 (by show 1 < 2; decide)).2.1
/-- Six steps, turns about. -/
def turns6 : List (Int × Int) := [(0, 0), (0, 1), (0, 0), (0, 1), (0, 0), (0, 1)]
theorem both_six {B : MB} (hB : BothB B) (ab g0 g1 mb : Nat) : (tRun B (t0 (pBoth ab g0 g1 mb)) turns6).ths = [⟨3, updR (updR tha.regs 1 1) 2 0, 0⟩, ⟨3, updR (updR tha.regs 1 1) 2 0, 0⟩] := by
  have e0 : ∀ (x y : Th) (bf : List (List Ent)) (m : List Int) (evs : List Evt), tPick B ⟨[x, y], bf, m, [], evs, 0⟩ (0, 0) = (let r := stepR (tOps B 0) ⟨[x, y], bf, m, [], evs, 0⟩ x (B.codes.getD 0 cdd); { r.2 with ths := r.2.ths.set 0 r.1 }) := fun _ _ _ _ _ => rfl
  have e1 : ∀ (x y : Th) (bf : List (List Ent)) (m : List Int) (evs : List Evt), tPick B ⟨[x, y], bf, m, [], evs, 0⟩ (0, 1) = (let r := stepR (tOps B 1) ⟨[x, y], bf, m, [], evs, 0⟩ y (B.codes.getD 1 cdd); { r.2 with ths := r.2.ths.set 1 r.1 }) := fun _ _ _ _ _ => rfl
  obtain ⟨v1, h1⟩ : ∃ v : Evt, { (⟨2, 0, 1, ((0 : Nat) : Int), 1, 0, 0, false⟩ : Evt) with who := ((0 : Nat) : Int) } = v := ⟨_, rfl⟩
  obtain ⟨v2, h2⟩ : ∃ v : Evt, { (⟨2, 0, 1, ((1 : Nat) : Int), 1, 0, 0, false⟩ : Evt) with who := ((1 : Nat) : Int) } = v := ⟨_, rfl⟩
  obtain ⟨v3, h3⟩ : ∃ v : Evt, { (⟨1, 0, 2, ((1 : Nat) : Int), 0, 0, 0, false⟩ : Evt) with who := ((0 : Nat) : Int) } = v := ⟨_, rfl⟩
  obtain ⟨v4, h4⟩ : ∃ v : Evt, { (⟨1, 0, 2, ((0 : Nat) : Int), 0, 0, 0, false⟩ : Evt) with who := ((1 : Nat) : Int) } = v := ⟨_, rfl⟩
  have a0 : tPick B ⟨[⟨0, tha.regs, 0⟩, ⟨0, tha.regs, 0⟩], [[], []], [0, 0], [], [], 0⟩ (0, 0) = ⟨[⟨1, updR tha.regs 1 1, 0⟩, ⟨0, tha.regs, 0⟩], [[], []], [0, 0], [], [], 0⟩ := by rw [e0, tside_s0 hB.l0 hB.F0 (.inl ⟨rfl, rfl⟩)]; rfl
  have a1 : tPick B ⟨[⟨1, updR tha.regs 1 1, 0⟩, ⟨0, tha.regs, 0⟩], [[], []], [0, 0], [], [], 0⟩ (0, 1) = ⟨[⟨1, updR tha.regs 1 1, 0⟩, ⟨1, updR tha.regs 1 1, 0⟩], [[], []], [0, 0], [], [], 0⟩ := by rw [e1, tside_s0 hB.l1 hB.F1 (.inr ⟨rfl, rfl⟩)]; rfl
  have a2 : tPick B ⟨[⟨1, updR tha.regs 1 1, 0⟩, ⟨1, updR tha.regs 1 1, 0⟩], [[], []], [0, 0], [], [], 0⟩ (0, 0) = ⟨[⟨2, updR tha.regs 1 1, 0⟩, ⟨1, updR tha.regs 1 1, 0⟩], [[(((0 : Nat) : Int), 1)], []], [0, 0], [], [v1], 0⟩ := by rw [e0, tside_s1 (r := updR tha.regs 1 1) hB.m hB.room rfl hB.l0 hB.F0 (.inl ⟨rfl, rfl⟩) rfl, ← h1]; rfl
  have a3 : tPick B ⟨[⟨2, updR tha.regs 1 1, 0⟩, ⟨1, updR tha.regs 1 1, 0⟩], [[(((0 : Nat) : Int), 1)], []], [0, 0], [], [v1], 0⟩ (0, 1) = ⟨[⟨2, updR tha.regs 1 1, 0⟩, ⟨2, updR tha.regs 1 1, 0⟩], [[(((0 : Nat) : Int), 1)], [(((1 : Nat) : Int), 1)]], [0, 0], [], [v1, v2], 0⟩ := by rw [e1, tside_s1 (r := updR tha.regs 1 1) hB.m hB.room rfl hB.l1 hB.F1 (.inr ⟨rfl, rfl⟩) rfl, ← h2]; rfl
  have a4 : tPick B ⟨[⟨2, updR tha.regs 1 1, 0⟩, ⟨2, updR tha.regs 1 1, 0⟩], [[(((0 : Nat) : Int), 1)], [(((1 : Nat) : Int), 1)]], [0, 0], [], [v1, v2], 0⟩ (0, 0) = ⟨[⟨3, updR (updR tha.regs 1 1) 2 0, 0⟩, ⟨2, updR tha.regs 1 1, 0⟩], [[(((0 : Nat) : Int), 1)], [(((1 : Nat) : Int), 1)]], [0, 0], [], [v1, v2, v3], 0⟩ := by rw [e0, tside_s2 hB.m rfl hB.l0 hB.F0 (.inl ⟨rfl, rfl⟩), ← h3]; rfl
  have a5 : tPick B ⟨[⟨3, updR (updR tha.regs 1 1) 2 0, 0⟩, ⟨2, updR tha.regs 1 1, 0⟩], [[(((0 : Nat) : Int), 1)], [(((1 : Nat) : Int), 1)]], [0, 0], [], [v1, v2, v3], 0⟩ (0, 1) = ⟨[⟨3, updR (updR tha.regs 1 1) 2 0, 0⟩, ⟨3, updR (updR tha.regs 1 1) 2 0, 0⟩], [[(((0 : Nat) : Int), 1)], [(((1 : Nat) : Int), 1)]], [0, 0], [], [v1, v2, v3, v4], 0⟩ := by rw [e1, tside_s2 hB.m rfl hB.l1 hB.F1 (.inr ⟨rfl, rfl⟩), ← h4]; rfl
  have z : t0 (pBoth ab g0 g1 mb) = ⟨[⟨0, tha.regs, 0⟩, ⟨0, tha.regs, 0⟩], [[], []], [0, 0], [], [], 0⟩ := rfl
  unfold tRun turns6
  rw [z]
  simp only [List.foldl_cons, List.foldl_nil]
  rw [a0, a1, a2, a3, a4, a5]
end Go.Proofs.YtjmnogpnjombgaaDoor
namespace Go.Proofs.YtjmnogpnjombgaaDoor
open Go.ChangeShapes Go.WideShapes Go.ChangeAt Go.RowKit Go.Deep
set_option linter.unusedVariables false
set_option maxRecDepth 100000
set_option linter.unusedSimpArgs false

/-- Steps of two threads, turns about. -/
def about (k : Nat) : List (Int × Int) := (List.range k).map fun i => (0, ((i : Nat) : Int).tmod 2)
theorem about_six : about 6 = turns6 := by decide
set_option maxHeartbeats 4000000 in
theorem awake_any (w : World) (hT : Tab w) : Calls Tryd.prog 29 #[] w fun e w' => e = .returned (.bool true) ∧ Below w.heap.size w w' := by
  have hN := hT.1
  have HT := Lib.hid hT
  have hmk := make2
  clear hT
  go_enter Tryd.func29, Tryd.ntmps29
  go_upto_region 2 with fail
  go_cut [2, 3] (fun v2 v3 wx => ∃ (ab g0 g1 mbb : Nat) (B : MB) (W1 : World), v2 = .pointer (some ⟨B.mb, 0, none⟩) ∧ v3 = .int .i64 0 ∧ NewM (pBoth ab g0 g1 mbb) B ∧ B.room = 1 ∧ w.heap.size ≤ W1.heap.size ∧ W1.heap.size ≤ wx.heap.size ∧ MInv tsoL B (t0 (pBoth ab g0 g1 mbb)) (fun i => W1.heap.size ≤ i ∧ i < wx.heap.size) wx ∧ Below w.heap.size w wx)
  case first =>
    have hH : Below w.heap.size w w.drew := below_drew w
    have hT0 : Tab w.drew := HT.out.step (below_drew w)
    refine startG (fun _ => True) 12 (by kernel_rfl) ?_
    have hsz : w.heap.size ≤ w.drew.heap.size := Nat.le_refl _
    generalize w.drew = W0 at hH hT0 hsz ⊢
    refine takeG0 (i := 0) (v := .func (.func 85) #[] #[]) rfl (by kernel_rfl) (by kernel_rfl) (by kernel_rfl) (by kernel_rfl) (fun _ _ _ h => h) (Or.inl ⟨by rfl, fun W hW => by go_simp⟩) trivial ?_
    simp only [Act.put, List.getElem_toArray, List.getElem_cons_zero, List.getElem_cons_succ, List.setIfInBounds_toArray, List.set_cons_zero, List.set_cons_succ]
    refine takeG0 (i := 2) (v := .func (.func 85) #[] #[]) rfl (by kernel_rfl) (by kernel_rfl) (by kernel_rfl) (by kernel_rfl) (fun _ _ _ h => h) (Or.inl ⟨by rfl, fun W hW => by go_simp⟩) trivial ?_
    simp only [Act.put, List.getElem_toArray, List.getElem_cons_zero, List.getElem_cons_succ, List.setIfInBounds_toArray, List.set_cons_zero, List.set_cons_succ]
    refine manyG (rs := [1, 5]) (by kernel_rfl) (by simp) (AllG.cons (i := 1) rfl (fun K hK => ?_) (AllG.cons (i := 5) rfl (fun K hK => ?_) AllG.nil))
    · go_simp
      with_reducible refine (side_any 0 1 W0).mono ?_
      rintro e V1 ⟨g0, rfl, h0n, hbn⟩
      replace hH := step_below hH hbn
      replace hT0 := hT0.step hbn
      clear hbn
      have h0 := h0n
      clear h0n
      refine hK.out _ _ trivial (fun _ => ?_)
      clear hK K
      try simp only [Act.put, List.getElem_toArray, List.getElem_cons_zero, List.getElem_cons_succ, List.setIfInBounds_toArray, List.set_cons_zero, List.set_cons_succ]
      refine manyG (rs := [3, 5]) (by kernel_rfl) (by simp) (AllG.cons (i := 3) rfl (fun K hK => ?_) (AllG.cons (i := 5) rfl (fun K hK => ?_) AllG.nil))
      · go_simp
        with_reducible refine (side_any 1 0 V1).mono ?_
        rintro e V2 ⟨g1, rfl, h1n, hbn⟩
        replace h0 := h0.below hbn h0.lt
        replace hH := step_below hH hbn
        replace hT0 := hT0.step hbn
        clear hbn
        have h1 := h1n
        clear h1n
        refine hK.out _ _ trivial (fun _ => ?_)
        clear hK K
        try simp only [Act.put, List.getElem_toArray, List.getElem_cons_zero, List.getElem_cons_succ, List.setIfInBounds_toArray, List.set_cons_zero, List.set_cons_succ]
        refine manyG (rs := [4, 5]) (by kernel_rfl) (by simp) (AllG.cons (i := 4) rfl (fun K hK => ?_) (AllG.cons (i := 5) rfl (fun K hK => ?_) AllG.nil))
        · go_simp
          have hbn := (Below.refl V2.heap.size V2).alloc (Nat.le_refl _) (.cells #[.slice (some ⟨g0, 0, none⟩) 3 3, .slice (some ⟨g1, 0, none⟩) 3 3] 26)
          have han := Blk.new V2 26 #[.slice (some ⟨g0, 0, none⟩) 3 3, .slice (some ⟨g1, 0, none⟩) 3 3]
          obtain ⟨ab, hge⟩ : ∃ g, V2.heap.size = g := ⟨_, rfl⟩
          rw [hge] at han
          try rw [hge]
          clear hge
          generalize V2.alloc (.cells #[.slice (some ⟨g0, 0, none⟩) 3 3, .slice (some ⟨g1, 0, none⟩) 3 3] 26) = V3 at hbn han ⊢
          replace h0 := h0.below hbn h0.lt
          replace h1 := h1.below hbn h1.lt
          replace hH := step_below hH hbn
          replace hT0 := hT0.step hbn
          clear hbn
          have ha := han
          clear han
          refine hK.out _ _ trivial (fun _ => ?_)
          clear hK K
          try simp only [Act.put, List.getElem_toArray, List.getElem_cons_zero, List.getElem_cons_succ, List.setIfInBounds_toArray, List.set_cons_zero, List.set_cons_succ]
          refine onlyG (i := 5) (by kernel_rfl) rfl (fun K hK => ?_)
          go_simp
          have hbn := (Below.refl V3.heap.size V3).alloc (Nat.le_refl _) (.cells #[.int .u32 0, .int .u32 0] 22)
          have hmn := Blk.new V3 22 #[.int .u32 0, .int .u32 0]
          obtain ⟨mb, hge⟩ : ∃ g, V3.heap.size = g := ⟨_, rfl⟩
          rw [hge] at hmn
          try rw [hge]
          clear hge
          generalize V3.alloc (.cells #[.int .u32 0, .int .u32 0] 22) = V4 at hbn hmn ⊢
          replace h0 := h0.below hbn h0.lt
          replace h1 := h1.below hbn h1.lt
          replace ha := ha.below hbn ha.lt
          replace hH := step_below hH hbn
          replace hT0 := hT0.step hbn
          clear hbn
          have hm := hmn
          clear hmn
          refine hK.out _ _ trivial (fun _ => ?_)
          clear hK K
          try simp only [Act.put, List.getElem_toArray, List.getElem_cons_zero, List.getElem_cons_succ, List.setIfInBounds_toArray, List.set_cons_zero, List.set_cons_succ]
          refine takeG0 (i := 6) (v := .agg #[.slice (some ⟨ab, 0, none⟩) 2 2, .slice (some ⟨mb, 0, none⟩) 2 2, .int .i64 1]) rfl (by kernel_rfl) (by kernel_rfl) (by kernel_rfl) (by kernel_rfl) (fun _ _ _ h => h) (Or.inl ⟨by rfl, fun W hW => by go_simp⟩) trivial ?_
          simp only [Act.put, List.getElem_toArray, List.getElem_cons_zero, List.getElem_cons_succ, List.setIfInBounds_toArray, List.set_cons_zero, List.set_cons_succ]
          refine onlyG (i := 7) (by kernel_rfl) rfl (fun K hK => ?_)
          go_simp
          have hC : Calls Tryd.prog 30 #[.agg #[.slice (some ⟨ab, 0, none⟩) 2 2, .slice (some ⟨mb, 0, none⟩) 2 2, .int .i64 1]] V4 _ := tsoNew_ok (pBoth ab g0 g1 mb) (pBoth_ok ab g0 g1 mb) 0 0 (pBoth_chk ab g0 g1 mb) V4 hT0 (pBoth_at h0 h1 ha hm)
          with_reducible refine hC.mono ?_
          rintro e W9 ⟨B, rfl, hNM, hro, hI, hB9⟩
          have HF := Lib.hid (And.intro hNM (And.intro hro (And.intro hH.size (And.intro hB9.size (And.intro hI (step_below hH hB9))))))
          refine hK.out _ _ trivial (fun _ => ?_)
          clear hK K hC
          try simp only [Act.put, List.getElem_toArray, List.getElem_cons_zero, List.getElem_cons_succ, List.setIfInBounds_toArray, List.set_cons_zero, List.set_cons_succ]
          refine takeG0 (i := 8) (v := .tuple #[.pointer (some ⟨B.mb, 0, none⟩), .int .i64 0]) rfl (by kernel_rfl) (by kernel_rfl) (by kernel_rfl) (by kernel_rfl) (fun _ _ _ h => h) (Or.inl ⟨by rfl, fun W hW => by go_simp⟩) trivial ?_
          simp only [Act.put, List.getElem_toArray, List.getElem_cons_zero, List.getElem_cons_succ, List.setIfInBounds_toArray, List.set_cons_zero, List.set_cons_succ]
          refine takeG0 (i := 9) (v := .pointer (some ⟨B.mb, 0, none⟩)) rfl (by kernel_rfl) (by kernel_rfl) (by kernel_rfl) (by kernel_rfl) (fun _ _ _ h => h) (Or.inl ⟨by rfl, fun W hW => by go_simp⟩) trivial ?_
          simp only [Act.put, List.getElem_toArray, List.getElem_cons_zero, List.getElem_cons_succ, List.setIfInBounds_toArray, List.set_cons_zero, List.set_cons_succ]
          refine takeG0 (i := 10) (v := .int .i64 0) rfl (by kernel_rfl) (by kernel_rfl) (by kernel_rfl) (by kernel_rfl) (fun _ _ _ h => h) (Or.inl ⟨by rfl, fun W hW => by go_simp⟩) trivial ?_
          simp only [Act.put, List.getElem_toArray, List.getElem_cons_zero, List.getElem_cons_succ, List.setIfInBounds_toArray, List.set_cons_zero, List.set_cons_succ]
          refine takeG0 (i := 11) (v := .pointer (some ⟨B.mb, 0, none⟩)) rfl (by kernel_rfl) (by kernel_rfl) (by kernel_rfl) (by kernel_rfl) (fun _ _ _ h => h) (Or.inl ⟨by rfl, fun W hW => by go_simp⟩) trivial ?_
          simp only [Act.put, List.getElem_toArray, List.getElem_cons_zero, List.getElem_cons_succ, List.setIfInBounds_toArray, List.set_cons_zero, List.set_cons_succ]
          refine lastG (by kernel_rfl) rfl (by kernel_rfl) (fun K hK => ?_)
          go_simp
          refine hK.out _ _ ?_
          clear hK K
          go_wp2_with fail
          go_meet
          case rel => exact ⟨ab, g0, g1, mb, B, V4, rfl, rfl, HF.out.1, HF.out.2.1, HF.out.2.2.1, HF.out.2.2.2.1, HF.out.2.2.2.2.1, HF.out.2.2.2.2.2⟩
        · go_simp
          have hbn := (Below.refl V2.heap.size V2).alloc (Nat.le_refl _) (.cells #[.int .u32 0, .int .u32 0] 22)
          have hmn := Blk.new V2 22 #[.int .u32 0, .int .u32 0]
          obtain ⟨mb, hge⟩ : ∃ g, V2.heap.size = g := ⟨_, rfl⟩
          rw [hge] at hmn
          try rw [hge]
          clear hge
          generalize V2.alloc (.cells #[.int .u32 0, .int .u32 0] 22) = V5 at hbn hmn ⊢
          replace h0 := h0.below hbn h0.lt
          replace h1 := h1.below hbn h1.lt
          replace hH := step_below hH hbn
          replace hT0 := hT0.step hbn
          clear hbn
          have hm := hmn
          clear hmn
          refine hK.out _ _ trivial (fun _ => ?_)
          clear hK K
          try simp only [Act.put, List.getElem_toArray, List.getElem_cons_zero, List.getElem_cons_succ, List.setIfInBounds_toArray, List.set_cons_zero, List.set_cons_succ]
          refine onlyG (i := 4) (by kernel_rfl) rfl (fun K hK => ?_)
          go_simp
          have hbn := (Below.refl V5.heap.size V5).alloc (Nat.le_refl _) (.cells #[.slice (some ⟨g0, 0, none⟩) 3 3, .slice (some ⟨g1, 0, none⟩) 3 3] 26)
          have han := Blk.new V5 26 #[.slice (some ⟨g0, 0, none⟩) 3 3, .slice (some ⟨g1, 0, none⟩) 3 3]
          obtain ⟨ab, hge⟩ : ∃ g, V5.heap.size = g := ⟨_, rfl⟩
          rw [hge] at han
          try rw [hge]
          clear hge
          generalize V5.alloc (.cells #[.slice (some ⟨g0, 0, none⟩) 3 3, .slice (some ⟨g1, 0, none⟩) 3 3] 26) = V6 at hbn han ⊢
          replace h0 := h0.below hbn h0.lt
          replace h1 := h1.below hbn h1.lt
          replace hm := hm.below hbn hm.lt
          replace hH := step_below hH hbn
          replace hT0 := hT0.step hbn
          clear hbn
          have ha := han
          clear han
          refine hK.out _ _ trivial (fun _ => ?_)
          clear hK K
          try simp only [Act.put, List.getElem_toArray, List.getElem_cons_zero, List.getElem_cons_succ, List.setIfInBounds_toArray, List.set_cons_zero, List.set_cons_succ]
          refine takeG0 (i := 6) (v := .agg #[.slice (some ⟨ab, 0, none⟩) 2 2, .slice (some ⟨mb, 0, none⟩) 2 2, .int .i64 1]) rfl (by kernel_rfl) (by kernel_rfl) (by kernel_rfl) (by kernel_rfl) (fun _ _ _ h => h) (Or.inl ⟨by rfl, fun W hW => by go_simp⟩) trivial ?_
          simp only [Act.put, List.getElem_toArray, List.getElem_cons_zero, List.getElem_cons_succ, List.setIfInBounds_toArray, List.set_cons_zero, List.set_cons_succ]
          refine onlyG (i := 7) (by kernel_rfl) rfl (fun K hK => ?_)
          go_simp
          have hC : Calls Tryd.prog 30 #[.agg #[.slice (some ⟨ab, 0, none⟩) 2 2, .slice (some ⟨mb, 0, none⟩) 2 2, .int .i64 1]] V6 _ := tsoNew_ok (pBoth ab g0 g1 mb) (pBoth_ok ab g0 g1 mb) 0 0 (pBoth_chk ab g0 g1 mb) V6 hT0 (pBoth_at h0 h1 ha hm)
          with_reducible refine hC.mono ?_
          rintro e W9 ⟨B, rfl, hNM, hro, hI, hB9⟩
          have HF := Lib.hid (And.intro hNM (And.intro hro (And.intro hH.size (And.intro hB9.size (And.intro hI (step_below hH hB9))))))
          refine hK.out _ _ trivial (fun _ => ?_)
          clear hK K hC
          try simp only [Act.put, List.getElem_toArray, List.getElem_cons_zero, List.getElem_cons_succ, List.setIfInBounds_toArray, List.set_cons_zero, List.set_cons_succ]
          refine takeG0 (i := 8) (v := .tuple #[.pointer (some ⟨B.mb, 0, none⟩), .int .i64 0]) rfl (by kernel_rfl) (by kernel_rfl) (by kernel_rfl) (by kernel_rfl) (fun _ _ _ h => h) (Or.inl ⟨by rfl, fun W hW => by go_simp⟩) trivial ?_
          simp only [Act.put, List.getElem_toArray, List.getElem_cons_zero, List.getElem_cons_succ, List.setIfInBounds_toArray, List.set_cons_zero, List.set_cons_succ]
          refine takeG0 (i := 9) (v := .pointer (some ⟨B.mb, 0, none⟩)) rfl (by kernel_rfl) (by kernel_rfl) (by kernel_rfl) (by kernel_rfl) (fun _ _ _ h => h) (Or.inl ⟨by rfl, fun W hW => by go_simp⟩) trivial ?_
          simp only [Act.put, List.getElem_toArray, List.getElem_cons_zero, List.getElem_cons_succ, List.setIfInBounds_toArray, List.set_cons_zero, List.set_cons_succ]
          refine takeG0 (i := 10) (v := .int .i64 0) rfl (by kernel_rfl) (by kernel_rfl) (by kernel_rfl) (by kernel_rfl) (fun _ _ _ h => h) (Or.inl ⟨by rfl, fun W hW => by go_simp⟩) trivial ?_
          simp only [Act.put, List.getElem_toArray, List.getElem_cons_zero, List.getElem_cons_succ, List.setIfInBounds_toArray, List.set_cons_zero, List.set_cons_succ]
          refine takeG0 (i := 11) (v := .pointer (some ⟨B.mb, 0, none⟩)) rfl (by kernel_rfl) (by kernel_rfl) (by kernel_rfl) (by kernel_rfl) (fun _ _ _ h => h) (Or.inl ⟨by rfl, fun W hW => by go_simp⟩) trivial ?_
          simp only [Act.put, List.getElem_toArray, List.getElem_cons_zero, List.getElem_cons_succ, List.setIfInBounds_toArray, List.set_cons_zero, List.set_cons_succ]
          refine lastG (by kernel_rfl) rfl (by kernel_rfl) (fun K hK => ?_)
          go_simp
          refine hK.out _ _ ?_
          clear hK K
          go_wp2_with fail
          go_meet
          case rel => exact ⟨ab, g0, g1, mb, B, V6, rfl, rfl, HF.out.1, HF.out.2.1, HF.out.2.2.1, HF.out.2.2.2.1, HF.out.2.2.2.2.1, HF.out.2.2.2.2.2⟩
      · go_simp
        have hbn := (Below.refl V1.heap.size V1).alloc (Nat.le_refl _) (.cells #[.int .u32 0, .int .u32 0] 22)
        have hmn := Blk.new V1 22 #[.int .u32 0, .int .u32 0]
        obtain ⟨mb, hge⟩ : ∃ g, V1.heap.size = g := ⟨_, rfl⟩
        rw [hge] at hmn
        try rw [hge]
        clear hge
        generalize V1.alloc (.cells #[.int .u32 0, .int .u32 0] 22) = V7 at hbn hmn ⊢
        replace h0 := h0.below hbn h0.lt
        replace hH := step_below hH hbn
        replace hT0 := hT0.step hbn
        clear hbn
        have hm := hmn
        clear hmn
        refine hK.out _ _ trivial (fun _ => ?_)
        clear hK K
        try simp only [Act.put, List.getElem_toArray, List.getElem_cons_zero, List.getElem_cons_succ, List.setIfInBounds_toArray, List.set_cons_zero, List.set_cons_succ]
        refine onlyG (i := 3) (by kernel_rfl) rfl (fun K hK => ?_)
        go_simp
        with_reducible refine (side_any 1 0 V7).mono ?_
        rintro e V8 ⟨g1, rfl, h1n, hbn⟩
        replace h0 := h0.below hbn h0.lt
        replace hm := hm.below hbn hm.lt
        replace hH := step_below hH hbn
        replace hT0 := hT0.step hbn
        clear hbn
        have h1 := h1n
        clear h1n
        refine hK.out _ _ trivial (fun _ => ?_)
        clear hK K
        try simp only [Act.put, List.getElem_toArray, List.getElem_cons_zero, List.getElem_cons_succ, List.setIfInBounds_toArray, List.set_cons_zero, List.set_cons_succ]
        refine onlyG (i := 4) (by kernel_rfl) rfl (fun K hK => ?_)
        go_simp
        have hbn := (Below.refl V8.heap.size V8).alloc (Nat.le_refl _) (.cells #[.slice (some ⟨g0, 0, none⟩) 3 3, .slice (some ⟨g1, 0, none⟩) 3 3] 26)
        have han := Blk.new V8 26 #[.slice (some ⟨g0, 0, none⟩) 3 3, .slice (some ⟨g1, 0, none⟩) 3 3]
        obtain ⟨ab, hge⟩ : ∃ g, V8.heap.size = g := ⟨_, rfl⟩
        rw [hge] at han
        try rw [hge]
        clear hge
        generalize V8.alloc (.cells #[.slice (some ⟨g0, 0, none⟩) 3 3, .slice (some ⟨g1, 0, none⟩) 3 3] 26) = V9 at hbn han ⊢
        replace h0 := h0.below hbn h0.lt
        replace hm := hm.below hbn hm.lt
        replace h1 := h1.below hbn h1.lt
        replace hH := step_below hH hbn
        replace hT0 := hT0.step hbn
        clear hbn
        have ha := han
        clear han
        refine hK.out _ _ trivial (fun _ => ?_)
        clear hK K
        try simp only [Act.put, List.getElem_toArray, List.getElem_cons_zero, List.getElem_cons_succ, List.setIfInBounds_toArray, List.set_cons_zero, List.set_cons_succ]
        refine takeG0 (i := 6) (v := .agg #[.slice (some ⟨ab, 0, none⟩) 2 2, .slice (some ⟨mb, 0, none⟩) 2 2, .int .i64 1]) rfl (by kernel_rfl) (by kernel_rfl) (by kernel_rfl) (by kernel_rfl) (fun _ _ _ h => h) (Or.inl ⟨by rfl, fun W hW => by go_simp⟩) trivial ?_
        simp only [Act.put, List.getElem_toArray, List.getElem_cons_zero, List.getElem_cons_succ, List.setIfInBounds_toArray, List.set_cons_zero, List.set_cons_succ]
        refine onlyG (i := 7) (by kernel_rfl) rfl (fun K hK => ?_)
        go_simp
        have hC : Calls Tryd.prog 30 #[.agg #[.slice (some ⟨ab, 0, none⟩) 2 2, .slice (some ⟨mb, 0, none⟩) 2 2, .int .i64 1]] V9 _ := tsoNew_ok (pBoth ab g0 g1 mb) (pBoth_ok ab g0 g1 mb) 0 0 (pBoth_chk ab g0 g1 mb) V9 hT0 (pBoth_at h0 h1 ha hm)
        with_reducible refine hC.mono ?_
        rintro e W9 ⟨B, rfl, hNM, hro, hI, hB9⟩
        have HF := Lib.hid (And.intro hNM (And.intro hro (And.intro hH.size (And.intro hB9.size (And.intro hI (step_below hH hB9))))))
        refine hK.out _ _ trivial (fun _ => ?_)
        clear hK K hC
        try simp only [Act.put, List.getElem_toArray, List.getElem_cons_zero, List.getElem_cons_succ, List.setIfInBounds_toArray, List.set_cons_zero, List.set_cons_succ]
        refine takeG0 (i := 8) (v := .tuple #[.pointer (some ⟨B.mb, 0, none⟩), .int .i64 0]) rfl (by kernel_rfl) (by kernel_rfl) (by kernel_rfl) (by kernel_rfl) (fun _ _ _ h => h) (Or.inl ⟨by rfl, fun W hW => by go_simp⟩) trivial ?_
        simp only [Act.put, List.getElem_toArray, List.getElem_cons_zero, List.getElem_cons_succ, List.setIfInBounds_toArray, List.set_cons_zero, List.set_cons_succ]
        refine takeG0 (i := 9) (v := .pointer (some ⟨B.mb, 0, none⟩)) rfl (by kernel_rfl) (by kernel_rfl) (by kernel_rfl) (by kernel_rfl) (fun _ _ _ h => h) (Or.inl ⟨by rfl, fun W hW => by go_simp⟩) trivial ?_
        simp only [Act.put, List.getElem_toArray, List.getElem_cons_zero, List.getElem_cons_succ, List.setIfInBounds_toArray, List.set_cons_zero, List.set_cons_succ]
        refine takeG0 (i := 10) (v := .int .i64 0) rfl (by kernel_rfl) (by kernel_rfl) (by kernel_rfl) (by kernel_rfl) (fun _ _ _ h => h) (Or.inl ⟨by rfl, fun W hW => by go_simp⟩) trivial ?_
        simp only [Act.put, List.getElem_toArray, List.getElem_cons_zero, List.getElem_cons_succ, List.setIfInBounds_toArray, List.set_cons_zero, List.set_cons_succ]
        refine takeG0 (i := 11) (v := .pointer (some ⟨B.mb, 0, none⟩)) rfl (by kernel_rfl) (by kernel_rfl) (by kernel_rfl) (by kernel_rfl) (fun _ _ _ h => h) (Or.inl ⟨by rfl, fun W hW => by go_simp⟩) trivial ?_
        simp only [Act.put, List.getElem_toArray, List.getElem_cons_zero, List.getElem_cons_succ, List.setIfInBounds_toArray, List.set_cons_zero, List.set_cons_succ]
        refine lastG (by kernel_rfl) rfl (by kernel_rfl) (fun K hK => ?_)
        go_simp
        refine hK.out _ _ ?_
        clear hK K
        go_wp2_with fail
        go_meet
        case rel => exact ⟨ab, g0, g1, mb, B, V9, rfl, rfl, HF.out.1, HF.out.2.1, HF.out.2.2.1, HF.out.2.2.2.1, HF.out.2.2.2.2.1, HF.out.2.2.2.2.2⟩
    · go_simp
      have hbn := (Below.refl W0.heap.size W0).alloc (Nat.le_refl _) (.cells #[.int .u32 0, .int .u32 0] 22)
      have hmn := Blk.new W0 22 #[.int .u32 0, .int .u32 0]
      obtain ⟨mb, hge⟩ : ∃ g, W0.heap.size = g := ⟨_, rfl⟩
      rw [hge] at hmn
      try rw [hge]
      clear hge
      generalize W0.alloc (.cells #[.int .u32 0, .int .u32 0] 22) = V10 at hbn hmn ⊢
      replace hH := step_below hH hbn
      replace hT0 := hT0.step hbn
      clear hbn
      have hm := hmn
      clear hmn
      refine hK.out _ _ trivial (fun _ => ?_)
      clear hK K
      try simp only [Act.put, List.getElem_toArray, List.getElem_cons_zero, List.getElem_cons_succ, List.setIfInBounds_toArray, List.set_cons_zero, List.set_cons_succ]
      refine onlyG (i := 1) (by kernel_rfl) rfl (fun K hK => ?_)
      go_simp
      with_reducible refine (side_any 0 1 V10).mono ?_
      rintro e V11 ⟨g0, rfl, h0n, hbn⟩
      replace hm := hm.below hbn hm.lt
      replace hH := step_below hH hbn
      replace hT0 := hT0.step hbn
      clear hbn
      have h0 := h0n
      clear h0n
      refine hK.out _ _ trivial (fun _ => ?_)
      clear hK K
      try simp only [Act.put, List.getElem_toArray, List.getElem_cons_zero, List.getElem_cons_succ, List.setIfInBounds_toArray, List.set_cons_zero, List.set_cons_succ]
      refine onlyG (i := 3) (by kernel_rfl) rfl (fun K hK => ?_)
      go_simp
      with_reducible refine (side_any 1 0 V11).mono ?_
      rintro e V12 ⟨g1, rfl, h1n, hbn⟩
      replace hm := hm.below hbn hm.lt
      replace h0 := h0.below hbn h0.lt
      replace hH := step_below hH hbn
      replace hT0 := hT0.step hbn
      clear hbn
      have h1 := h1n
      clear h1n
      refine hK.out _ _ trivial (fun _ => ?_)
      clear hK K
      try simp only [Act.put, List.getElem_toArray, List.getElem_cons_zero, List.getElem_cons_succ, List.setIfInBounds_toArray, List.set_cons_zero, List.set_cons_succ]
      refine onlyG (i := 4) (by kernel_rfl) rfl (fun K hK => ?_)
      go_simp
      have hbn := (Below.refl V12.heap.size V12).alloc (Nat.le_refl _) (.cells #[.slice (some ⟨g0, 0, none⟩) 3 3, .slice (some ⟨g1, 0, none⟩) 3 3] 26)
      have han := Blk.new V12 26 #[.slice (some ⟨g0, 0, none⟩) 3 3, .slice (some ⟨g1, 0, none⟩) 3 3]
      obtain ⟨ab, hge⟩ : ∃ g, V12.heap.size = g := ⟨_, rfl⟩
      rw [hge] at han
      try rw [hge]
      clear hge
      generalize V12.alloc (.cells #[.slice (some ⟨g0, 0, none⟩) 3 3, .slice (some ⟨g1, 0, none⟩) 3 3] 26) = V13 at hbn han ⊢
      replace hm := hm.below hbn hm.lt
      replace h0 := h0.below hbn h0.lt
      replace h1 := h1.below hbn h1.lt
      replace hH := step_below hH hbn
      replace hT0 := hT0.step hbn
      clear hbn
      have ha := han
      clear han
      refine hK.out _ _ trivial (fun _ => ?_)
      clear hK K
      try simp only [Act.put, List.getElem_toArray, List.getElem_cons_zero, List.getElem_cons_succ, List.setIfInBounds_toArray, List.set_cons_zero, List.set_cons_succ]
      refine takeG0 (i := 6) (v := .agg #[.slice (some ⟨ab, 0, none⟩) 2 2, .slice (some ⟨mb, 0, none⟩) 2 2, .int .i64 1]) rfl (by kernel_rfl) (by kernel_rfl) (by kernel_rfl) (by kernel_rfl) (fun _ _ _ h => h) (Or.inl ⟨by rfl, fun W hW => by go_simp⟩) trivial ?_
      simp only [Act.put, List.getElem_toArray, List.getElem_cons_zero, List.getElem_cons_succ, List.setIfInBounds_toArray, List.set_cons_zero, List.set_cons_succ]
      refine onlyG (i := 7) (by kernel_rfl) rfl (fun K hK => ?_)
      go_simp
      have hC : Calls Tryd.prog 30 #[.agg #[.slice (some ⟨ab, 0, none⟩) 2 2, .slice (some ⟨mb, 0, none⟩) 2 2, .int .i64 1]] V13 _ := tsoNew_ok (pBoth ab g0 g1 mb) (pBoth_ok ab g0 g1 mb) 0 0 (pBoth_chk ab g0 g1 mb) V13 hT0 (pBoth_at h0 h1 ha hm)
      with_reducible refine hC.mono ?_
      rintro e W9 ⟨B, rfl, hNM, hro, hI, hB9⟩
      have HF := Lib.hid (And.intro hNM (And.intro hro (And.intro hH.size (And.intro hB9.size (And.intro hI (step_below hH hB9))))))
      refine hK.out _ _ trivial (fun _ => ?_)
      clear hK K hC
      try simp only [Act.put, List.getElem_toArray, List.getElem_cons_zero, List.getElem_cons_succ, List.setIfInBounds_toArray, List.set_cons_zero, List.set_cons_succ]
      refine takeG0 (i := 8) (v := .tuple #[.pointer (some ⟨B.mb, 0, none⟩), .int .i64 0]) rfl (by kernel_rfl) (by kernel_rfl) (by kernel_rfl) (by kernel_rfl) (fun _ _ _ h => h) (Or.inl ⟨by rfl, fun W hW => by go_simp⟩) trivial ?_
      simp only [Act.put, List.getElem_toArray, List.getElem_cons_zero, List.getElem_cons_succ, List.setIfInBounds_toArray, List.set_cons_zero, List.set_cons_succ]
      refine takeG0 (i := 9) (v := .pointer (some ⟨B.mb, 0, none⟩)) rfl (by kernel_rfl) (by kernel_rfl) (by kernel_rfl) (by kernel_rfl) (fun _ _ _ h => h) (Or.inl ⟨by rfl, fun W hW => by go_simp⟩) trivial ?_
      simp only [Act.put, List.getElem_toArray, List.getElem_cons_zero, List.getElem_cons_succ, List.setIfInBounds_toArray, List.set_cons_zero, List.set_cons_succ]
      refine takeG0 (i := 10) (v := .int .i64 0) rfl (by kernel_rfl) (by kernel_rfl) (by kernel_rfl) (by kernel_rfl) (fun _ _ _ h => h) (Or.inl ⟨by rfl, fun W hW => by go_simp⟩) trivial ?_
      simp only [Act.put, List.getElem_toArray, List.getElem_cons_zero, List.getElem_cons_succ, List.setIfInBounds_toArray, List.set_cons_zero, List.set_cons_succ]
      refine takeG0 (i := 11) (v := .pointer (some ⟨B.mb, 0, none⟩)) rfl (by kernel_rfl) (by kernel_rfl) (by kernel_rfl) (by kernel_rfl) (fun _ _ _ h => h) (Or.inl ⟨by rfl, fun W hW => by go_simp⟩) trivial ?_
      simp only [Act.put, List.getElem_toArray, List.getElem_cons_zero, List.getElem_cons_succ, List.setIfInBounds_toArray, List.set_cons_zero, List.set_cons_succ]
      refine lastG (by kernel_rfl) rfl (by kernel_rfl) (fun K hK => ?_)
      go_simp
      refine hK.out _ _ ?_
      clear hK K
      go_wp2_with fail
      go_meet
      case rel => exact ⟨ab, g0, g1, mb, B, V13, rfl, rfl, HF.out.1, HF.out.2.1, HF.out.2.2.1, HF.out.2.2.2.1, HF.out.2.2.2.2.1, HF.out.2.2.2.2.2⟩
  case rest =>
    obtain ⟨ab, g0, g1, mbb, B, W1, rfl, rfl, hNM, hro, hs1, hs2, hI, hB2⟩ := hcut
    have H2 := Lib.hid (And.intro hNM (And.intro hI (And.intro hB2 (And.intro hro (And.intro hs1 hs2)))))
    clear hNM hI hB2 hro hs1 hs2 hmk
    go_wp2
    go_loopw [4] (fun i wr => ∃ k : Nat, k ≤ 6 ∧ i = .int .i64 (k : Int) ∧ Moves (MInv tsoL B) (tRun B (t0 (pBoth ab g0 g1 mbb)) (about k)) (fun i => W1.heap.size ≤ i ∧ i < wc.heap.size) wc wr) (fun i _ => 6 - (intOf i).toNat)
    case atStart => exact ⟨0, by omega, rfl, H2.out.2.1.stay⟩
    case round =>
      obtain ⟨k, hk, rfl, hM⟩ := hrel
      have HM := Lib.hid hM
      clear hM
      by_cases hk6 : k < 6
      · have hk1 : (k : Int) < 6 := by omega
        go_wp2_with fail
        have hcall : Calls Tryd.prog 36 #[.pointer (some ⟨B.mb, 0, none⟩), .agg #[.int .i64 0, .int .i64 ((k : Int) % 2)]] wr fun e W' => (∃ u, e = .returned u) ∧ Moves (MInv tsoL B) (tRun B (t0 (pBoth ab g0 g1 mbb)) (about (k + 1))) (fun i => W1.heap.size ≤ i ∧ i < wc.heap.size) wc W' := by
          rw [show (k : Int) % 2 = (k : Int).tmod 2 from (Int.tmod_eq_emod_of_nonneg (by omega)).symm]
          obtain ⟨own2, hI2, ho2, hk2⟩ := HM.out
          have hBok : MBok B := newM_ok H2.out.1 (by show 2 ≤ 8; decide) (by show 2 ≤ 1024; decide)
          have hr16 : B.room ≤ 16 := by rw [H2.out.2.2.2.1]; decide
          have hok := t0_ok (pBoth_ok ab g0 g1 mbb) H2.out.1
          have hcan : mCan B 3 (tRun B (t0 (pBoth ab g0 g1 mbb)) (about k)) := tRun_can hBok hr16 _ _ 3 hok (t0_can (by show 2 ≤ 8; decide) _ (by unfold about; rw [List.length_map, List.length_range]; omega))
          have hT2 : Tab wr := hk2.tab (fun i hi => by have := H2.out.2.2.2.2.1; omega) (HT.out.step H2.out.2.2.1)
          refine (tpick_any B hBok hr16 _ (tRun_ok hBok _ _ hok) hcan own2 _ hI2 hT2 (0, (k : Int).tmod 2)).mono fun e W' ⟨he, hm⟩ => ⟨he, ?_⟩
          have e1 : about (k + 1) = about k ++ [(0, (k : Int).tmod 2)] := by
            unfold about
            rw [List.range_succ, List.map_append]
            rfl
          rw [e1, tRun_snoc]
          exact Moves.after ho2 hk2 hm
        with_reducible refine hcall.mono ?_
        rintro e W3 ⟨⟨u, rfl⟩, hM2⟩
        clear hcall HM
        go_wp2
        go_roundw
        case rel => exact ⟨k + 1, by omega, by go_num, hM2⟩
        case measure => simp [intOf]; omega
      · obtain rfl : k = 6 := by omega
        have hM6 := HM.out
        rw [about_six] at hM6
        have r0 := both_six (bothB_of H2.out.1 H2.out.2.2.2.1) ab g0 g1 mbb
        have hsz := H2.out.2.2.2.2.1
        have hsz2 := H2.out.2.2.2.2.2
        have HF := Lib.hid (KeepOut.belowM hM6.keep H2.out.2.2.1 (by omega) (fun i hi => by have := hi.1; omega))
        generalize tRun B (t0 (pBoth ab g0 g1 mbb)) turns6 = s6 at hM6 r0
        obtain ⟨own6, hI6⟩ := hM6.inv
        have c0 := tthreads_any B s6 own6 wr hI6 (by rw [r0]; show 2 ≤ 2000000000; omega)
        rw [r0] at c0
        clear hM6 hI6 HM r0
        go_wp2_with fail
        with_reducible refine c0.mono ?_
        rintro e W3 ⟨v, rfl, hv, hb3⟩
        have HF3 := Lib.hid (step_belowN HF.out hb3 (HF.out.size))
        obtain ⟨tA, tc, rfl, htc, hs⟩ := own_sl hv
        obtain ⟨tb, tof, rfl, htl, hcc⟩ := hs (by decide)
        have q0 : W3.cell? ⟨tb, tof, none⟩ = some (.int .i64 3) := hcc 0 (by decide)
        have q3 : W3.cell? ⟨tb, tof + 1 + 2, none⟩ = some (.int .u32 0) := hcc 3 (by decide)
        have q10 : W3.cell? ⟨tb, tof + 10, none⟩ = some (.int .i64 3) := hcc 10 (by decide)
        have q13 : W3.cell? ⟨tb, tof + 10 + 1 + 2, none⟩ = some (.int .u32 0) := hcc 13 (by decide)
        clear hcc hs hv c0 hb3 htc htl
        simp only [List.length_cons, List.length_nil, Nat.zero_add, Nat.reduceAdd]
        go_wp2
        go_ret
        exact ⟨rfl, HF3.out⟩
end Go.Proofs.YtjmnogpnjombgaaDoor
