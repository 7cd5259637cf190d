/- BufPlays: the round's parts. -/
import Derived.Test.YtaanmamgmjhegaaBufSame
namespace Go.Proofs.Ytaanmamgmjhegaa
open Go.ChangeShapes Go.WideShapes Go.ChangeAt Go.RowKit Go.Deep
set_option linter.unusedVariables false
set_option linter.unusedSimpArgs false

def putL (l : List Ent) (room : Int) (x : Ent) : List Ent := if (l.length : Int) < room then l ++ [x] else l
theorem put_any (cs : Array Value) (l : List Ent) (room : Int) (h : Buf cs l room) (x : Ent) (hr : room ≤ 16) (ok : Bool) (hok : decide ((l.length : Int) < room) = ok) (w : World) :
    Calls Try.prog 13 #[.agg cs, .agg #[.int .i64 x.1, .int .u32 x.2]] w fun e w' => ∃ cs', Buf cs' (if ok = true then l ++ [x] else l) room ∧ e = .returned (.tuple #[.agg cs', .bool ok]) ∧ Below w.heap.size w w' := by
  by_cases hl : (l.length : Int) < room
  · rw [decide_eq_true hl] at hok
    subst hok
    exact put_yes cs l room h x hl (by omega) w
  · rw [decide_eq_false hl] at hok
    subst hok
    exact (put_full cs l room h x (by omega) w).mono fun e w' ⟨he, hb⟩ => ⟨cs, h, he, hb⟩

/-- Entries in memory, in blocks behind gb. -/
def EntS (W : World) (gb : Nat) (A : Option Addr) (l : List Ent) : Prop :=
  0 < l.length → ∃ b off, A = some ⟨b, off, none⟩ ∧ gb < b ∧ b < W.heap.size ∧ ∀ i, i < l.length → W.cell? ⟨b, off + i * 2, none⟩ = some (.int .i64 (l.getD i (0, 0)).1) ∧ W.cell? ⟨b, off + i * 2 + 1, none⟩ = some (.int .u32 (l.getD i (0, 0)).2)
theorem EntS.below {W W1 : World} {gb : Nat} {A : Option Addr} {l : List Ent} (h : EntS W gb A l) (hb : Below W.heap.size W W1) : EntS W1 gb A l := fun hp => by
  obtain ⟨b, off, rfl, h1, h2, h3⟩ := h hp
  exact ⟨b, off, rfl, h1, Nat.lt_of_lt_of_le h2 hb.size, fun i hi => ⟨keepAt hb h2 (h3 i hi).1, keepAt hb h2 (h3 i hi).2⟩⟩
theorem EntS.row {W W1 : World} {gb : Nat} {A : Option Addr} {l : List Ent} (h : EntS W gb A l) (hg : W.grownBy W1 (some gb)) : EntS W1 gb A l := fun hp => by
  obtain ⟨b, off, rfl, h1, h2, h3⟩ := h hp
  have hne : some b ≠ some gb := fun e => by injection e with e; omega
  exact ⟨b, off, rfl, h1, Nat.lt_of_lt_of_le h2 hg.size, fun i hi => ⟨(World.cell?_of_block (w := W) (a := ⟨b, off + i * 2, none⟩) (hg.block b h2 hne)).trans (h3 i hi).1, (World.cell?_of_block (w := W) (a := ⟨b, off + i * 2 + 1, none⟩) (hg.block b h2 hne)).trans (h3 i hi).2⟩⟩
theorem EntS.sle {W : World} {gb : Nat} {A : Option Addr} {l : List Ent} (h : EntS W gb A l) : SlE W A l.length 2 (fun i => entV (l.getD i (0, 0))) := fun hp => by
  obtain ⟨b, off, rfl, h1, h2, h3⟩ := h hp
  refine ⟨b, off, rfl, h2, fun i hi j u hu => ?_⟩
  have hj : j < 2 := (List.getElem?_eq_some_iff.1 hu).1
  rcases (by omega : j = 0 ∨ j = 1) with rfl | rfl
  · rw [← Option.some.inj hu]; exact (h3 i hi).1
  · rw [← Option.some.inj hu]; exact (h3 i hi).2
theorem EntS.of {W : World} {gb : Nat} {A : Option Addr} {l : List Ent} (h : SlE W A l.length 2 (fun i => entV (l.getD i (0, 0)))) (hg : ∀ b off, A = some ⟨b, off, none⟩ → gb < b) : EntS W gb A l := fun hp => by
  obtain ⟨b, off, rfl, h2, h3⟩ := h hp
  exact ⟨b, off, rfl, hg b off rfl, h2, fun i hi => ⟨h3 i hi 0 _ rfl, h3 i hi 1 _ rfl⟩⟩
theorem EntS.tail {W : World} {gb b off : Nat} {x : Ent} {l : List Ent} (h : EntS W gb (some ⟨b, off, none⟩) (x :: l)) : EntS W gb (some ⟨b, off + 2, none⟩) l := fun hp => by
  obtain ⟨b', off', e, h1, h2, h3⟩ := h (by simp)
  injection e with e
  injection e with e1 e2
  subst e1 e2
  refine ⟨b, off + 2, rfl, h1, h2, fun i hi => ?_⟩
  have := h3 (i + 1) (by simp; omega)
  rw [show off + (i + 1) * 2 = off + 2 + i * 2 by omega] at this
  exact this
theorem EntS.nil {W : World} {gb : Nat} {A : Option Addr} : EntS W gb A [] := fun h => absurd h (by simp)

theorem own_empty (w : World) (t : TypeId) (size : Nat) : (w.alloc (.cells #[] t)).ownsRow w.heap.size t size (.slice (some ⟨w.heap.size, 0, none⟩) 0 0) 0 [] :=
  ⟨by simp, .inr ⟨w.heap.size, 0, #[], rfl, Nat.le_refl _, Blk.new w t #[], Nat.le_refl _, Nat.zero_le _, by simp, by simp⟩⟩
theorem flat_one (l : List Ent) (i : Nat) (hi : i < l.length * 2) : ((l.flatMap entV).getD i undef).oneCell' = true := by
  have h2 := flat_get entV 2 (fun _ => rfl) (0, 0) l (i / 2) (by omega) (i % 2) (by omega)
  rw [show i / 2 * 2 + i % 2 = i by omega] at h2
  simp only [List.getD_eq_getElem?_getD, h2]
  rcases (by omega : i % 2 = 0 ∨ i % 2 = 1) with h | h <;> rw [h] <;> rfl
theorem sl_flat {W : World} {A : Option Addr} {l : List Ent} (h : SlE W A l.length 2 (fun i => entV (l.getD i (0, 0)))) : Sl W A (l.length * 2) (fun i => (l.flatMap entV).getD i undef) := fun hp => by
  obtain ⟨b, off, rfl, hlt, hc⟩ := h (by omega)
  refine ⟨b, off, rfl, hlt, fun i hi => ?_⟩
  have h2 := flat_get entV 2 (fun _ => rfl) (0, 0) l (i / 2) (by omega) (i % 2) (by omega)
  have h3 := hc (i / 2) (by omega) (i % 2) ((l.flatMap entV).getD i undef) (by
    rw [← h2, show i / 2 * 2 + i % 2 = i by omega, List.getD_eq_getElem?_getD]
    have : i < (l.flatMap entV).length := by rw [flat_len entV 2 (fun _ => rfl)]; exact hi
    rw [List.getElem?_eq_getElem this]
    rfl)
  rw [show off + i / 2 * 2 + i % 2 = off + i by omega] at h3
  exact h3
theorem flat_range (l : List Ent) : (List.range (l.length * 2)).map (fun i => (l.flatMap entV).getD i undef) = l.flatMap entV :=
  range_getD _ _ (flat_len entV 2 (fun _ => rfl) l)
/-- A row that owns the entries is such entries. -/
theorem ents_own {W : World} {base gb : Nat} {v : Value} (l : List Ent) (h : W.ownsRow base 26 2 v l.length (l.flatMap entV)) (hg : gb < base) : ∃ A cap, v = .slice A l.length cap ∧ l.length ≤ cap ∧ EntS W gb A l := by
  obtain ⟨A, cap, rfl, hc, hs⟩ := own_sle entV (fun _ => rfl) (0, 0) l h
  exact ⟨A, cap, rfl, hc, EntS.of hs fun b off e => by
    subst e
    exact Nat.lt_of_lt_of_le hg (own_ge h b rfl)⟩

def actV (x : Bool × Ent) : List Value := [.bool x.1, .int .i64 x.2.1, .int .u32 x.2.2]
/-- What a round begins and ends with. -/
structure Play (w wr : World) (gb : Nat) (room : Int) (s : Value) (cs : Array Value) (l : List Ent) (A : Option Addr) (cap : Nat) : Prop where
  s : s = .slice A l.length cap
  hc : l.length ≤ cap
  buf : Buf cs l room
  lr : (l.length : Int) ≤ room
  ents : EntS wr gb A l
  b : Blk wr gb 29 cs
  B : Below w.heap.size w wr
end Go.Proofs.Ytaanmamgmjhegaa
