/- The heap of dues in memory; its methods. -/
import Derived.Test.YtiodfcemggfnfaaHeapM
import Derived.Test.YtiodfcemggfnfaaOwn
import Derived.Test.YtiodfcemggfnfaaRow
import Derived.RegionTactic
import Derived.BigRegion
import Derived.Deep.QuietTactic
import Derived.BigQuiet
import Derived.IntWalk
namespace Go.Proofs.Ytiodfcemggfnfaa
open Go.ChangeShapes Go.WideShapes Go.ChangeAt Go.RowKit Go.Deep
set_option linter.unusedVariables false
set_option linter.unusedSimpArgs false

theorem dlen_any (A : Option Addr) (n cap : Nat) (w : World) : Calls Try.prog 39 #[.slice A n cap] w fun e w' => e = .returned (.int .i64 (n : Int)) ∧ w = w' := by
  go_enter Try.func39, Try.ntmps39
  go_wp2
  go_ret
  exact ⟨rfl, rfl⟩

theorem dless_any (b off n cap i j : Nat) (x y : Int) (hi : i < n) (hj : j < n) (w : World) (h1 : w.cell? ⟨b, off + i * 3 + 2, none⟩ = some (.int .i64 x)) (h2 : w.cell? ⟨b, off + j * 3 + 2, none⟩ = some (.int .i64 y)) :
    Calls Try.prog 40 #[.slice (some ⟨b, off, none⟩) n cap, .int .i64 (i : Int), .int .i64 (j : Int)] w fun e w' => e = .returned (.bool (decide (x < y))) ∧ ∃ q, w' = w.drewN q := by
  have hi' : (i : Int) < (n : Int) := by omega
  have hj' : (j : Int) < (n : Int) := by omega
  have hi0 : (0 : Int) ≤ (i : Int) := by omega
  have hj0 : (0 : Int) ≤ (j : Int) := by omega
  go_enter Try.func40, Try.ntmps40
  go_wp2
  go_quiet (fail)
  go_wp2
  go_ret
  exact ⟨rfl, _, rfl⟩

theorem m_push (p : Addr) (w : World) : (method 177 46 (.pointer (some p)) "Push").run Try.prog w = .ok (41, .pointer (some p)) w := by kernel_rfl
theorem m_len0 (p : Addr) (w : World) : (method 177 46 (.pointer (some p)) "Len").run Try.prog w = ((loadVar 48 p) >>= fun v => pure (39, v) : Sem (FuncId × Value)).run Try.prog w := by kernel_rfl
theorem m_less0 (p : Addr) (w : World) : (method 177 46 (.pointer (some p)) "Less").run Try.prog w = ((loadVar 48 p) >>= fun v => pure (40, v) : Sem (FuncId × Value)).run Try.prog w := by kernel_rfl
theorem m_swap0 (p : Addr) (w : World) : (method 177 46 (.pointer (some p)) "Swap").run Try.prog w = ((loadVar 48 p) >>= fun v => pure (42, v) : Sem (FuncId × Value)).run Try.prog w := by kernel_rfl
theorem load_dues {w : World} {Bd : Nat} {v : Value} (h : w.cell? ⟨Bd, 0, none⟩ = some v) : (loadVar 48 ⟨Bd, 0, none⟩).run Try.prog w = .ok v w := by
  simp [loadVar, Try.underlying48, h, go_sem]

/-- The items' cells. -/
def ICells (cur : Array Value) (n : Nat) (F : Nat → Itm) : Prop := ∀ i, i < n → cur[i * 3]? = some (.int .i64 (F i).kind) ∧ cur[i * 3 + 1]? = some (.int .i64 (F i).who) ∧ cur[i * 3 + 2]? = some (.int .i64 (F i).due)
theorem ICells.congr {cur : Array Value} {n : Nat} {F G : Nat → Itm} (h : ICells cur n F) (e : ∀ i, i < n → F i = G i) : ICells cur n G := fun i hi => by rw [← e i hi]; exact h i hi
theorem ICells.size {cur : Array Value} {n : Nat} {F : Nat → Itm} (h : ICells cur n F) : n * 3 ≤ cur.size := by
  rcases Nat.eq_zero_or_pos n with rfl | hp
  · omega
  · have := (Array.getElem?_eq_some_iff.1 (h (n - 1) (by omega)).2.2).1
    omega
def put3 (c : Array Value) (i : Nat) (x : Itm) : Array Value := ((c.setIfInBounds (i * 3) (.int .i64 x.kind)).setIfInBounds (i * 3 + 1) (.int .i64 x.who)).setIfInBounds (i * 3 + 2) (.int .i64 x.due)
theorem put3_size (c : Array Value) (i : Nat) (x : Itm) : (put3 c i x).size = c.size := by simp [put3]
theorem put3_cells {c : Array Value} {n : Nat} {F : Nat → Itm} (h : ICells c n F) (i : Nat) (hi : i < n) (x : Itm) : ICells (put3 c i x) n (fun k => if k = i then x else F k) := fun k hk => by
  have hs := h.size
  unfold put3
  by_cases e : k = i
  · subst e
    dsimp only
    rw [if_pos rfl]
    refine ⟨?_, ?_, ?_⟩
    · rw [Array.getElem?_setIfInBounds_ne (by omega), Array.getElem?_setIfInBounds_ne (by omega), Array.getElem?_setIfInBounds_self_of_lt (by omega)]
    · rw [Array.getElem?_setIfInBounds_ne (by omega), Array.getElem?_setIfInBounds_self_of_lt (by simp; omega)]
    · rw [Array.getElem?_setIfInBounds_self_of_lt (by simp; omega)]
  · obtain ⟨h1, h2, h3⟩ := h k hk
    dsimp only
    rw [if_neg e]
    refine ⟨?_, ?_, ?_⟩
    · rw [Array.getElem?_setIfInBounds_ne (by omega), Array.getElem?_setIfInBounds_ne (by omega), Array.getElem?_setIfInBounds_ne (by omega), h1]
    · rw [Array.getElem?_setIfInBounds_ne (by omega), Array.getElem?_setIfInBounds_ne (by omega), Array.getElem?_setIfInBounds_ne (by omega), h2]
    · rw [Array.getElem?_setIfInBounds_ne (by omega), Array.getElem?_setIfInBounds_ne (by omega), Array.getElem?_setIfInBounds_ne (by omega), h3]
theorem grown_set {a b : World} {g : Nat} (h : a.grownBy b (some g)) (j : Nat) (u : Value) : a.grownBy (b.setCell ⟨g, j, none⟩ u) (some g) :=
  ⟨h.os, h.tape, h.output, by simpa [World.setCell] using h.size, fun i hi hne => (Below.heap_setCell b ⟨g, j, none⟩ u i (fun e => hne (by rw [e]))).trans (h.block i hi hne)⟩
theorem grown_drew {a b : World} {row : Option Nat} (h : a.grownBy b row) : a.grownBy b.drew row := ⟨h.os, h.tape, h.output, h.size, h.block⟩
/-- What a swap leaves. -/
def Swapped (W : World) (g n : Nat) (cur : Array Value) (F : Nat → Itm) (e : Ending) (W' : World) : Prop :=
  (∃ v, e = .returned v) ∧ ∃ cur', Blk W' g 51 cur' ∧ cur'.size = cur.size ∧ ICells cur' n F ∧ W.grownBy W' (some g)
set_option maxHeartbeats 1000000 in
theorem dswap_any (g n cap i j : Nat) (cur : Array Value) (F : Nat → Itm) (hi : i < n) (hj : j < n) (hij : i ≠ j) (w : World) (hb : Blk w g 51 cur) (hc : ICells cur n F) :
    Calls Try.prog 42 #[.slice (some ⟨g, 0, none⟩) n cap, .int .i64 (i : Int), .int .i64 (j : Int)] w (Swapped w g n cur (swp F i j)) := by
  have hi' : (i : Int) < (n : Int) := by omega
  have hj' : (j : Int) < (n : Int) := by omega
  have hi0 : (0 : Int) ≤ (i : Int) := by omega
  have hj0 : (0 : Int) ≤ (j : Int) := by omega
  obtain ⟨a0, a1, a2⟩ := hc i hi
  obtain ⟨b0, b1, b2⟩ := hc j hj
  have HC := Lib.hid (And.intro hc (And.intro hb hij))
  have c0 := (hb.cell (i * 3)).trans a0
  have c1 := (hb.cell (i * 3 + 1)).trans a1
  have c2 := (hb.cell (i * 3 + 2)).trans a2
  have d0 := (hb.cell (j * 3)).trans b0
  have d1 := (hb.cell (j * 3 + 1)).trans b1
  have d2 := (hb.cell (j * 3 + 2)).trans b2
  have f0 := hb.frozen (i * 3)
  have f1 := hb.frozen (i * 3 + 1)
  have f2 := hb.frozen (i * 3 + 2)
  have g0 := hb.frozen (j * 3)
  have g1 := hb.frozen (j * 3 + 1)
  have g2 := hb.frozen (j * 3 + 2)
  clear a0 a1 a2 b0 b1 b2 hc hb
  go_enter Try.func42, Try.ntmps42
  go_wp2
  go_region
  all_goals
    go_wp2
    go_end0
    obtain ⟨hc, hb, hij⟩ := HC.out
    refine ⟨⟨_, rfl⟩, put3 (put3 cur i (F j)) j (F i), ?_, by rw [put3_size, put3_size], (put3_cells (put3_cells hc i hi (F j)) j hj (F i)).congr (fun k hk => ?_), ?_⟩
    · exact ((((((hb.set_ _ _).set_ _ _).set_ _ _).set_ _ _).set_ _ _).set_ _ _).drew
    · unfold swp
      by_cases e1 : k = j
      · by_cases e2 : k = i
        · exact absurd (e2.symm.trans e1) hij
        · rw [if_pos e1, if_neg e2, if_pos e1]
      · rw [if_neg e1]
        by_cases e2 : k = i
        · rw [if_pos e2, if_pos e2]
        · rw [if_neg e2, if_neg e2, if_neg e1]
    · exact grown_drew (grown_set (grown_set (grown_set (grown_set (grown_set (grown_set (World.grownBy.refl w _) _ _) _ _) _ _) _ _) _ _) _ _)

/-- The heap of dues in memory: its box, its row. -/
structure HS (W : World) (Bd g n cap : Nat) (F : Nat → Itm) : Prop where
  box : Blk W Bd 48 #[.slice (some ⟨g, 0, none⟩) n cap]
  row : ∃ cur, Blk W g 51 cur ∧ cur.size = cap * 3 ∧ ICells cur n F
  ne : Bd ≠ g
  nc : n ≤ cap
  cm : cap ≤ maxLen
theorem HS.cell {W : World} {Bd g n cap : Nat} {F : Nat → Itm} (h : HS W Bd g n cap F) : W.cell? ⟨Bd, 0, none⟩ = some (.slice (some ⟨g, 0, none⟩) n cap) := (h.box.cell 0).trans rfl
theorem HS.drewN {W : World} {Bd g n cap : Nat} {F : Nat → Itm} (h : HS W Bd g n cap F) (q : Nat) : HS (W.drewN q) Bd g n cap F := by
  obtain ⟨cur, h1, h2, h3⟩ := h.row
  exact ⟨h.box.drewN q, ⟨cur, h1.drewN q, h2, h3⟩, h.ne, h.nc, h.cm⟩
theorem HS.due {W : World} {Bd g n cap : Nat} {F : Nat → Itm} (h : HS W Bd g n cap F) (i : Nat) (hi : i < n) : W.cell? ⟨g, 0 + i * 3 + 2, none⟩ = some (.int .i64 (F i).due) := by
  obtain ⟨cur, h1, h2, h3⟩ := h.row
  rw [Nat.zero_add]
  exact (h1.cell _).trans (h3 i hi).2.2
theorem HS.swapped {W W' : World} {Bd g n cap : Nat} {F G : Nat → Itm} {cur : Array Value} {e : Ending} (h : HS W Bd g n cap F) (hs : cur.size = cap * 3) (k : Swapped W g n cur G e W') : HS W' Bd g n cap G := by
  obtain ⟨_, cur', h1, h2, h3, h4⟩ := k
  exact ⟨h.box.grown h4 (fun e => h.ne (Option.some.inj e)), ⟨cur', h1, by rw [h2, hs], h3⟩, h.ne, h.nc, h.cm⟩
theorem HS.less {W : World} {Bd g n cap : Nat} {F : Nat → Itm} (h : HS W Bd g n cap F) {i j : Nat} (hi : i < n) (hj : j < n) :
    Calls Try.prog 40 #[.slice (some ⟨g, 0, none⟩) n cap, .int .i64 (i : Int), .int .i64 (j : Int)] W fun e w' => e = .returned (.bool (decide ((F i).due < (F j).due))) ∧ ∃ q, w' = W.drewN q :=
  dless_any g 0 n cap i j _ _ hi hj W (h.due i hi) (h.due j hj)
/-- What a swap leaves of the heap. -/
def HSwap (W : World) (Bd g n cap : Nat) (G : Nat → Itm) (e : Ending) (W' : World) : Prop := (∃ v, e = .returned v) ∧ HS W' Bd g n cap G ∧ W.grownBy W' (some g)
theorem HS.swap {W : World} {Bd g n cap : Nat} {F : Nat → Itm} (h : HS W Bd g n cap F) {i j : Nat} (hi : i < n) (hj : j < n) (hij : i ≠ j) :
    Calls Try.prog 42 #[.slice (some ⟨g, 0, none⟩) n cap, .int .i64 (i : Int), .int .i64 (j : Int)] W (HSwap W Bd g n cap (swp F i j)) := by
  obtain ⟨cur, h1, h2, h3⟩ := h.row
  refine (dswap_any g n cap i j cur F hi hj hij W h1 h3).mono fun e W' k => ⟨k.1, h.swapped h2 k, ?_⟩
  obtain ⟨_, _, _, _, _, h4⟩ := k
  exact h4
theorem m_len {W : World} {Bd g n cap : Nat} {F : Nat → Itm} (h : HS W Bd g n cap F) : (method 177 46 (.pointer (some ⟨Bd, 0, none⟩)) "Len").run Try.prog W = .ok (39, .slice (some ⟨g, 0, none⟩) n cap) W := by
  rw [m_len0, Sem.run_bind, load_dues h.cell]
  rfl
theorem m_less {W : World} {Bd g n cap : Nat} {F : Nat → Itm} (h : HS W Bd g n cap F) : (method 177 46 (.pointer (some ⟨Bd, 0, none⟩)) "Less").run Try.prog W = .ok (40, .slice (some ⟨g, 0, none⟩) n cap) W := by
  rw [m_less0, Sem.run_bind, load_dues h.cell]
  rfl
theorem m_swap {W : World} {Bd g n cap : Nat} {F : Nat → Itm} (h : HS W Bd g n cap F) : (method 177 46 (.pointer (some ⟨Bd, 0, none⟩)) "Swap").run Try.prog W = .ok (42, .slice (some ⟨g, 0, none⟩) n cap) W := by
  rw [m_swap0, Sem.run_bind, load_dues h.cell]
  rfl
end Go.Proofs.Ytiodfcemggfnfaa
