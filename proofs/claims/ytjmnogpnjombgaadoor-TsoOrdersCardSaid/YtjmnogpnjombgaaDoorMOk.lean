/- What steps keep (plain): registers are words; what each function of a port keeps, a step keeps. -/
import Derived.Test.YtjmnogpnjombgaaDoorMBox
import Derived.Laws.Closers25b
namespace Go.Proofs.YtjmnogpnjombgaaDoor
open Go.ChangeShapes Go.WideShapes Go.ChangeAt Go.RowKit Go.Deep
set_option linter.unusedVariables false
set_option maxRecDepth 100000
set_option linter.unusedSimpArgs false

/-- A word. -/
def RV (z : Int) : Prop := 0 ≤ z ∧ z ≤ 4294967295
def RegsOk (t : Th) : Prop := ∀ r, RV (t.regs r)
theorem RV.mod (z : Int) : RV (z % 4294967296) := ⟨by omega, by omega⟩
theorem RV.zero : RV 0 := ⟨by omega, by omega⟩
theorem RV.one : RV 1 := ⟨by omega, by omega⟩
theorem RV.div {z : Int} (h : RV z) (n : Nat) : RV (z / 2 ^ n) := by
  have hp : (0 : Int) < 2 ^ n := Int.pow_pos (by decide)
  refine ⟨Int.ediv_nonneg h.1 (Int.le_of_lt hp), ?_⟩
  have h1 : z / 2 ^ n ≤ z := by
    have := Int.ediv_le_self (a := z) (2 ^ n) h.1
    exact this
  have := h.2
  omega
theorem RV.alu (op : Nat) {a b : Int} (ha : RV a) : RV (aluF op a b) := by
  unfold aluF
  split
  · exact RV.mod _
  split
  · exact RV.mod _
  split
  · exact RV.mod _
  split
  · exact bits_within .and .u32 a b
  split
  · exact bits_within .or .u32 a b
  split
  · exact bits_within .xor .u32 a b
  split
  · exact RV.mod _
  split
  · exact ha.div _
  split
  · split
    · exact RV.one
    · exact RV.zero
  split
  · split
    · exact RV.one
    · exact RV.zero
  · exact RV.zero
theorem RegsOk.upd {t : Th} (h : RegsOk t) (r : Nat) {v : Int} (hv : RV v) : ∀ k, RV (updR t.regs r v k) := fun k => by
  unfold updR
  split
  · exact hv
  · exact h k

/-- What each function of a port keeps. -/
structure OpsKeep {σ : Type} (O : Ops σ) (G : σ → Prop) : Prop where
  load : ∀ s a, G s → RV (O.load s a).1 ∧ G (O.load s a).2
  store : ∀ s a v, G s → RV v → G (O.store s a v)
  flush : ∀ s, G s → G (O.flush s)
  swap : ∀ s a v, G s → RV v → G (O.swap s a v)
  sleep : ∀ s a, G s → G (O.sleep s a)
  wake : ∀ s a v, G s → RV (O.wake s a v).1 ∧ G (O.wake s a v).2
  remote : ∀ s, G s → G (O.remote s)
  note : ∀ s x, G s → G (O.note s x)
section
variable {σ : Type} {O : Ops σ} {G : σ → Prop}
theorem keep_lock (h : OpsKeep O G) {s : σ} (hs : G s) (pc : Int) (m : Nat) (old v : Int) (ok : Bool) (hv : RV v) : G (lockS O s pc m old v ok) := by
  unfold lockS
  refine h.note _ _ ?_
  split
  · exact h.swap _ _ _ hs hv
  · exact hs
theorem keep_asks (h : OpsKeep O G) {s : σ} (hs : G s) {t : Th} (ht : RegsOk t) (op : Int) (a c m : Nat) : RegsOk (asksR O s t op a c m).1 ∧ G (asksR O s t op a c m).2 := by
  have hl := h.load s m hs
  unfold asksR
  split
  · exact ⟨ht.upd a hl.1, h.note _ _ hl.2⟩
  split
  · exact ⟨ht, h.note _ _ (h.store _ _ _ hs (ht a))⟩
  split
  · exact ⟨ht.upd a hl.1, keep_lock h hl.2 _ _ _ _ _ (ht a)⟩
  split
  · exact ⟨ht.upd a hl.1, keep_lock h hl.2 _ _ _ _ _ (RV.mod _)⟩
  split
  · exact ⟨ht.upd a hl.1, keep_lock h hl.2 _ _ _ _ _ (ht c)⟩
  split
  · unfold waitR
    split
    · exact ⟨ht.upd a RV.zero, h.sleep _ _ (h.note _ _ hl.2)⟩
    · exact ⟨ht.upd a RV.one, h.note _ _ hl.2⟩
  · have hw := h.wake s m (t.regs a) hs
    exact ⟨ht.upd a hw.1, h.note _ _ hw.2⟩
theorem keep_plain (h : OpsKeep O G) {s : σ} (hs : G s) {t : Th} (ht : RegsOk t) (op a b c : Nat) (k addr : Int) (hk : RV k) : RegsOk (plainR O s t op a b c k addr).1 ∧ G (plainR O s t op a b c k addr).2 := by
  unfold plainR
  split
  · exact ⟨ht.upd a hk, hs⟩
  split
  · exact ⟨ht.upd a (ht b), hs⟩
  split
  · exact ⟨ht, h.note _ _ hs⟩
  split
  · exact ⟨ht, h.note _ _ hs⟩
  split
  · exact ⟨ht, h.note _ _ hs⟩
  split
  · exact ⟨ht, h.note _ _ (h.remote _ hs)⟩
  split
  · exact ⟨ht.upd a (RV.alu op (ht b)), hs⟩
  · exact ⟨ht, hs⟩
theorem keep_ins (h : OpsKeep O G) {s : σ} (hs : G s) {t : Th} (ht : RegsOk t) (i : Ins) (hi : RV i.k) : RegsOk (insR O s t i).1 ∧ G (insR O s t i).2 := by
  unfold insR
  split
  · exact ⟨ht, h.flush _ hs⟩
  split
  · exact ⟨ht, h.flush _ hs⟩
  split
  · exact ⟨ht, h.note _ _ hs⟩
  split
  · exact ⟨ht, hs⟩
  split
  · exact keep_asks h hs ht _ _ _ _
  · exact keep_plain h hs ht _ _ _ _ _ _ hi
theorem keep_step (h : OpsKeep O G) {s : σ} (hs : G s) {t : Th} (ht : RegsOk t) {c : Cd} (hc : c.Ok) : RegsOk (stepR O s t c).1 ∧ G (stepR O s t c).2 := by
  unfold stepR
  split
  · exact ⟨ht, hs⟩
  split
  · exact ⟨ht, h.note _ _ hs⟩
  rename_i h1 h2
  split
  · exact ⟨ht, h.note _ _ hs⟩
  split
  · exact ⟨ht, h.note _ _ hs⟩
  have hk := hc.ins t.pc.toNat (by omega)
  exact keep_ins h hs ht _ ⟨hk.k0, hk.k1⟩
end
/-- A step costs no more than three. -/
theorem can_step {σ : Type} {O : Ops σ} {V : Pv} {Inv : σ → (Nat → Prop) → World → Prop} {can : Nat → σ → Prop} (hP : PortOk O V Inv can) {n : Nat} {s : σ} (hc : can (n + 3) s) (t : Th) (c : Cd) : can n (stepR O s t c).2 := by
  have h2 := hP.less _ _ hc
  have h1 := hP.less _ _ h2
  have h0 := hP.less _ _ h1
  have hlock : ∀ {s : σ} (pc : Int) (m : Nat) (old v : Int) (ok : Bool), can (n + 2) s → can n (lockS O s pc m old v ok) := fun pc m old v ok h => by
    unfold lockS
    refine hP.cnote _ _ _ ?_
    split
    · exact hP.cswap _ _ _ _ h
    · exact hP.less _ _ h
  have hl := fun m => hP.cload _ _ m hc
  unfold stepR
  repeat' split
  all_goals first
    | exact h0
    | exact hP.cnote _ _ _ h1
    | skip
  unfold insR
  split
  · exact hP.cflush _ _ h1
  split
  · exact hP.cflush _ _ h1
  split
  · exact hP.cnote _ _ _ h1
  split
  · exact h0
  split
  · show can n (asksR O s t _ _ _ _).2
    unfold asksR
    split
    · exact hP.cnote _ _ _ (hP.less _ _ (hl _))
    split
    · exact hP.cnote _ _ _ (hP.cstore _ _ _ _ h2)
    split
    · exact hlock _ _ _ _ _ (hl _)
    split
    · exact hlock _ _ _ _ _ (hl _)
    split
    · exact hlock _ _ _ _ _ (hl _)
    split
    · unfold waitR
      split
      · exact hP.csleep _ _ _ (hP.cnote _ _ _ (hl _))
      · exact hP.cnote _ _ _ (hP.less _ _ (hl _))
    · exact hP.cnote _ _ _ (hP.cwake _ _ _ _ h2)
  · show can n (plainR O s t _ _ _ _ _ _).2
    unfold plainR
    repeat' split
    all_goals first
      | exact h0
      | exact hP.cnote _ _ _ h1
      | exact hP.cnote _ _ _ (hP.cremote _ _ h2)
end Go.Proofs.YtjmnogpnjombgaaDoor
