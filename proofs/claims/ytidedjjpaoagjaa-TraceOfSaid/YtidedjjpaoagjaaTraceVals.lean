/- Rows of values taken out of events: the document's Outs and Values, trace.Values, and whether two rows are the same. -/
import Derived.Test.YtidedjjpaoagjaaTraceAwake
namespace Go.Proofs.Ytidedjjpaoagjaa
open Go.ChangeShapes Go.WideShapes Go.ChangeAt Go.RowKit Go.Deep
set_option linter.unusedVariables false
set_option linter.unusedSimpArgs false

/-- The values of the first k events that are asked for. -/
def sel (f : Ev → Bool) (E : Nat → Ev) (k : Nat) : List Int := ((List.range k).filter fun i => f (E i)).map fun i => (E i).value
theorem sel_hit {f : Ev → Bool} {E : Nat → Ev} {k : Nat} (h : f (E k) = true) : sel f E (k + 1) = sel f E k ++ [(E k).value] := by
  unfold sel
  rw [List.range_succ, List.filter_append, List.map_append, List.filter_cons_of_pos (p := fun i => f (E i)) h]
  rfl
theorem sel_miss {f : Ev → Bool} {E : Nat → Ev} {k : Nat} (h : f (E k) = false) : sel f E (k + 1) = sel f E k := by
  unfold sel
  rw [List.range_succ, List.filter_append, List.map_append, List.filter_cons_of_neg (p := fun i => f (E i)) (by rw [h]; decide)]
  simp
theorem sel_len (f : Ev → Bool) (E : Nat → Ev) (k : Nat) : (sel f E k).length ≤ k := by
  unfold sel
  rw [List.length_map]
  have := List.length_filter_le (fun i => f (E i)) (List.range k)
  simpa using this
def outF (t : Int) (x : Ev) : Bool := x.who == t && x.kind == 6
def valF (a : Int) (x : Ev) : Bool := x.addr == a && (x.kind == 3 || (x.kind == 4 && x.ok))
theorem oL_sel (E : Nat → Ev) (t : Int) : ∀ k, oL (evs E t k) = sel (outF t) E k
  | 0 => rfl
  | k + 1 => by
    by_cases h : (E k).who = t
    · rw [evs_hit h]
      by_cases h6 : (E k).kind = 6
      · rw [oL_hit _ h6, sel_hit (by simp [outF, h, h6]), oL_sel E t k]
      · rw [oL_miss _ h6, sel_miss (by simp [outF, h6]), oL_sel E t k]
    · rw [evs_miss h, sel_miss (by simp [outF, h]), oL_sel E t k]
def SelEnd (f : Ev → Bool) (E : Nat → Ev) (len : Nat) (w : World) (e : Ending) (W' : World) : Prop :=
  ∃ v, e = .returned v ∧ W'.ownsRow w.heap.size 29 1 v (sel f E len).length ((sel f E len).map (Value.int .u32)) ∧ Below w.heap.size w W'
theorem outs_sel (A : Option Addr) (len cap : Nat) (E : Nat → Ev) (t : Int) (hl : len ≤ 100000) (w : World) (hs : SlE w A len 8 (fun i => (E i).cells)) :
    Calls Try.prog 15 #[.slice A len cap, .int .i64 t] w (SelEnd (outF t) E len w) :=
  (outs_any A len cap E t hl w hs).mono fun e W' h => by rw [oL_sel] at h; exact h

/-- What holds between two rounds. -/
structure SelI (f : Ev → Bool) (E : Nat → Ev) (w W : World) (k : Nat) (v : Value) : Prop where
  row : W.ownsRow w.heap.size 29 1 v (sel f E k).length ((sel f E k).map (Value.int .u32))
  below : Below w.heap.size w W
theorem SelI.miss {f : Ev → Bool} {E : Nat → Ev} {w W : World} {k : Nat} {v : Value} (h : SelI f E w W k v) (hf : f (E k) = false) : SelI f E w W (k + 1) v := ⟨by rw [sel_miss hf]; exact h.row, h.below⟩
theorem SelI.hit {f : Ev → Bool} {E : Nat → Ev} {w W W' : World} {k : Nat} {v v' : Value} (h : SelI f E w W k v) (hf : f (E k) = true) {o : Obj} (hg : (W.alloc o).grownBy W' v.ownBlock)
    (hown : W'.ownsRow w.heap.size 29 1 v' ((sel f E k).length + 1) ((sel f E k).map (Value.int .u32) ++ [.int .u32 (E k).value])) : SelI f E w W' (k + 1) v' :=
  ⟨by rw [sel_hit hf, List.length_append, List.map_append]; exact hown, below_own (h.below.alloc h.below.size _) (h.row.alloc _) hg (Nat.le_refl _) (Nat.le_refl _)⟩
theorem SelI.alloc {f : Ev → Bool} {E : Nat → Ev} {w W : World} {k : Nat} {v : Value} (h : SelI f E w W k v) (o : Obj) : SelI f E w (W.alloc o) k v := ⟨h.row.alloc o, h.below.alloc h.below.size o⟩
/-- An event's cells, behind what was made. -/
theorem SelI.cells {f : Ev → Bool} {E : Nat → Ev} {w W : World} {k n : Nat} {v : Value} {A : Option Addr} {len : Nat} (h : SelI f E w W k v) (hs : SlE w A len 8 (fun i => (E i).cells)) (hn : n < len) :
    ∃ b off, A = some ⟨b, off, none⟩ ∧ ∀ j u, (E n).cells[j]? = some u → W.cell? ⟨b, off + n * 8 + j, none⟩ = some u := by
  obtain ⟨b, off, rfl, hlt, hc⟩ := SlE.below hs (Nat.le_refl _) h.below (by omega)
  exact ⟨b, off, rfl, fun j u hu => hc n hn j u hu⟩

set_option maxHeartbeats 4000000 in
theorem refOuts_any (A : Option Addr) (len cap : Nat) (E : Nat → Ev) (t : Int) (hl : len ≤ 100000) (w : World) (hs : SlE w A len 8 (fun i => (E i).cells)) :
    Calls Try.prog 16 #[.slice A len cap, .int .i64 t] w (SelEnd (outF t) E len w) := by
  obtain ⟨i0, hi, hz0, hz1, hz2⟩ := info_parts u32_info
  have HS := Lib.hid hs
  clear hs
  go_enter Try.func16, Try.ntmps16
  go_wp2
  go_loopw [5, 6] (fun v i wr => ∃ k : Nat, k ≤ len ∧ i = .int .i64 (k : Int) ∧ SelI (outF t) E w wr k v) (fun _ i _ => len - (intOf i).toNat)
  case atStart => exact ⟨0, Nat.zero_le _, rfl, World.ownsRow_nil _ _ _ _, Below.refl _ _⟩
  case round =>
    obtain ⟨k, hk, rfl, hI⟩ := hrel
    by_cases hlt : k < len
    · obtain ⟨b, off, rfl, hc⟩ := hI.cells HS.out hlt
      have hlt' : (k : Int) < (len : Int) := by omega
      have hk0 : (0 : Int) ≤ (k : Int) := by omega
      obtain ⟨x, hx⟩ : ∃ x, E k = x := ⟨_, rfl⟩
      rw [hx] at hc
      have c0 := hc 0 _ rfl
      have c1 := hc 1 _ rfl
      have c4 := hc 4 _ rfl
      rw [Nat.add_zero] at c0
      have hrow := hI.row
      have hsz := hI.below.size
      have hsl := sel_len (outF t) E k
      have HX := Lib.hid (And.intro hx hI)
      clear hc hx hI
      by_cases hf : outF t x = true
      · have hf2 := hf
        unfold outF at hf2
        rw [Bool.and_eq_true] at hf2
        obtain ⟨q1, q2⟩ := hf2
        have HF := Lib.hid hf
        clear hf
        obtain ⟨n0, hn0⟩ : ∃ n0, (sel (outF t) E k).length = n0 := ⟨_, rfl⟩
        rw [hn0] at hrow hsl
        have HN := Lib.hid hn0
        clear hn0
        go_wp2_with (at_builtin; go_must (refine wpList_append_own_at _ rfl (.tmp 28) (.tmp 34) 43 rfl w.heap.size 29 i0 _ 1 4 Try.underlying43 hi hz0 hz1 hz2 rfl (by decide) _ _ _ rfl (hrow.alloc _) ⟨wr.heap.size, 0, none⟩ 1 1 [.int .u32 x.value] rfl rfl (cell_one_new _ _ _) (by simp [Value.oneCell']) (by unfold maxLen; omega) (by omega) (Nat.le_trans hsz (by simp)) ?_; intro v' w5 hown5 hg5 _ hnew))
        obtain ⟨hx, hI⟩ := HX.out
        rw [HN.out.symm] at hown5
        have hI5 := hI.hit (by rw [hx]; exact HF.out) hg5 (by rw [hx]; exact hown5)
        go_roundw
        case measure => simp [intOf]; omega
        case rel => exact ⟨k + 1, by omega, by go_num, hI5⟩
      · have hI5 := HX.out.2.miss (by rw [HX.out.1]; simpa using hf)
        have HI5 := Lib.hid hI5
        clear hI5
        by_cases q1 : (x.who == t) = true
        · have q2 : (x.kind == 6) = false := by
            cases q : (x.kind == 6)
            · rfl
            · exact absurd (by unfold outF; rw [q1, q]; rfl) hf
          have HF := Lib.hid hf
          clear hf
          go_wp2
          go_roundw
          case measure => simp [intOf]; omega
          case rel => exact ⟨k + 1, by omega, by go_num, HI5.out⟩
        · have q1 : (x.who == t) = false := by simpa using q1
          have HF := Lib.hid hf
          clear hf
          go_wp2
          go_roundw
          case measure => simp [intOf]; omega
          case rel => exact ⟨k + 1, by omega, by go_num, HI5.out⟩
    · obtain rfl : k = len := by omega
      go_wp2
      go_ret
      exact ⟨_, rfl, hI.row, hI.below⟩
end Go.Proofs.Ytidedjjpaoagjaa
