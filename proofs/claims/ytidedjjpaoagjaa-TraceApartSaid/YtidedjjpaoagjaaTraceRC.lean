/- The document's calls. -/
import Derived.Test.YtidedjjpaoagjaaTraceOne
namespace Go.Proofs.Ytidedjjpaoagjaa
open Go.ChangeShapes Go.WideShapes Go.ChangeAt Go.RowKit Go.Deep
set_option linter.unusedVariables false
set_option linter.unusedSimpArgs false

def isBeg (E : Nat → Ev) (i : Nat) : Bool := begB E i && (decide (0 ≤ (E i).who) && decide ((E i).who < 8))
def allP (E : Nat → Ev) (len k : Nat) : List Cl := ((List.range k).filter (isBeg E)).map fun i => (oneS E len i).1
theorem allP_all (E : Nat → Ev) (len : Nat) : allP E len len = allC E len := rfl
theorem allP_hit {E : Nat → Ev} {len k : Nat} (h : isBeg E k = true) : allP E len (k + 1) = allP E len k ++ [(oneS E len k).1] := by
  unfold allP
  rw [List.range_succ, List.filter_append, List.map_append, List.filter_cons_of_pos h]
  rfl
theorem allP_miss {E : Nat → Ev} {len k : Nat} (h : isBeg E k = false) : allP E len (k + 1) = allP E len k := by
  unfold allP
  rw [List.range_succ, List.filter_append, List.map_append, List.filter_cons_of_neg (by rw [h]; decide)]
  simp
theorem allP_len (E : Nat → Ev) (len k : Nat) : (allP E len k).length ≤ k := by
  unfold allP
  rw [List.length_map]
  have := List.length_filter_le (isBeg E) (List.range k)
  simpa using this
theorem rcall_info : (Try.prog.info? 40).map (fun i => (i.zero, i.size, i.bytes)) = some (some (.agg #[.int .i64 0, .int .i64 0, .int .i64 0, .int .i64 0, .int .u32 0, .slice none 0 0]), 6, 64) := by kernel_rfl

/-- What holds between two rounds. -/
structure RI (E : Nat → Ev) (len : Nat) (w W : World) (k : Nat) (done : List CV) (v : Value) : Prop where
  st : done.map (·.1) = allP E len k
  row : W.ownsRow w.heap.size 40 6 v done.length (done.flatMap CV.cells)
  inn : ∀ p ∈ done, InnR W w.heap.size p
  below : Below w.heap.size w W
theorem RI.skip {E : Nat → Ev} {len k : Nat} {w W : World} {done : List CV} {v : Value} (h : RI E len w W k done v) (e : isBeg E k = false) : RI E len w W (k + 1) done v :=
  ⟨by rw [allP_miss e]; exact h.st, h.row, h.inn, h.below⟩
theorem RI.next {E : Nat → Ev} {len k : Nat} {w W W1 w5 : World} {done : List CV} {v v' iv : Value} {o : Obj} (h : RI E len w W k done v) (e : isBeg E k = true) (hb : Below W.heap.size W W1) (hi : InnR W1 W.heap.size ((oneS E len k).1, iv))
    (hg : (W1.alloc o).grownBy w5 v.ownBlock) (hown : w5.ownsRow w.heap.size 40 6 v' (done.length + 1) (done.flatMap CV.cells ++ (oneS E len k).1.cellsV iv)) : RI E len w w5 (k + 1) (done ++ [((oneS E len k).1, iv)]) v' := by
  have hrow1 := own_below h.row (Nat.le_refl _) hb
  have hB1 : Below w.heap.size w W1 := step_below h.below hb
  refine ⟨by rw [List.map_append, h.st, allP_hit e]; rfl, ?_, fun p hp => ?_, below_own (hB1.alloc hB1.size _) (hrow1.alloc _) hg (Nat.le_refl _) (Nat.le_refl _)⟩
  · rw [List.length_append, List.flatMap_append]
    simpa [CV.cells] using hown
  · rcases List.mem_append.1 hp with hp | hp
    · exact own_apart (World.ownsRow.alloc (own_below (h.inn p hp) (Nat.le_refl _) hb) o) (hrow1.alloc o) (by decide) hg
    · rw [List.mem_singleton.1 hp]
      exact own_apart (World.ownsRow.alloc (own_base hi h.below.size) o) (hrow1.alloc o) (by decide) hg

def RCalls (E : Nat → Ev) (len : Nat) (w : World) (e : Ending) (W' : World) : Prop :=
  ∃ v RV, e = .returned v ∧ RV.map (·.1) = allC E len ∧ PT W' w.heap.size W'.heap.size v RV ∧ (∀ p ∈ RV, INN W' w.heap.size W'.heap.size p) ∧ Below w.heap.size w W'
theorem own_ptR {W : World} {base lo hi : Nat} {v : Value} {l : List CV} (h : W.ownsRow base 40 6 v l.length (l.flatMap CV.cells)) (h1 : lo ≤ base) (h2 : W.heap.size ≤ hi) : PT W lo hi v l := by
  obtain ⟨A, cap, e, hc1, hc2⟩ := own_cap h
  refine ⟨A, cap, e, hc1, hc2, fun hp => ?_⟩
  rcases h.2 with ⟨rfl, e0⟩ | ⟨g, cap', cur, e0, hg, hh, _⟩
  · omega
  · rw [e0] at e
    simp only [Value.slice.injEq] at e
    obtain ⟨rfl, _, _⟩ := e
    have hlt : g < W.heap.size := own_lt h g (by rw [e0]; rfl)
    refine ⟨g, 0, rfl, by omega, by omega, fun i hi j u hu => ?_⟩
    have hj : j < 6 := (List.getElem?_eq_some_iff.1 hu).1
    rw [e0] at h
    rw [Nat.zero_add, World.ownsRow.cellAt h _ (by omega), flat_get CV.cells 6 (fun _ => rfl) cv0 l i hi j hj]
    exact hu

set_option maxRecDepth 100000 in
set_option maxHeartbeats 4000000 in
theorem rcalls_any (A : Option Addr) (len cap : Nat) (E : Nat → Ev) (hl : len ≤ 100000) (w : World) (hs : SlE w A len 8 (fun i => (E i).cells)) :
    Calls Try.prog 13 #[.slice A len cap] w (RCalls E len w) := by
  obtain ⟨j0, ji, jz0, jz1, jz2⟩ := info_parts rcall_info
  have HS := Lib.hid hs
  clear hs
  go_enter Try.func13, Try.ntmps13
  go_wp2
  go_loopw [3, 4] (fun v i wr => ∃ (k : Nat) (done : List CV), k ≤ len ∧ i = .int .i64 (k : Int) ∧ RI E len w wr k done v) (fun _ i _ => len - (intOf i).toNat)
  case atStart => exact ⟨0, [], Nat.zero_le _, rfl, rfl, ⟨rfl, .inl ⟨rfl, rfl⟩⟩, fun p hp => (by cases hp), Below.refl _ _⟩
  case round =>
    obtain ⟨k, done, hk, rfl, hI⟩ := hrel
    by_cases hlt : k < len
    · obtain ⟨b, off, rfl, hbl, hc⟩ := SlE.below HS.out (Nat.le_refl _) hI.below (by omega)
      have hlt' : (k : Int) < (len : Int) := by omega
      have hk0 : (0 : Int) ≤ (k : Int) := by omega
      obtain ⟨x, hx⟩ : ∃ x, E k = x := ⟨_, rfl⟩
      have hca : ∀ j u, x.cells[j]? = some u → wr.cell? ⟨b, off + k * 8 + j, none⟩ = some u := fun j u hu => hc k hlt j u (by rw [← hx] at hu; exact hu)
      have c0 := hca 0 _ rfl
      have c1 := hca 1 _ rfl
      have c6 := hca 6 _ rfl
      rw [Nat.add_zero] at c0
      have cO := one_any (some ⟨b, off, none⟩) len cap E k hl hlt wr (SlE.below HS.out (Nat.le_refl _) hI.below)
      have hkv0 := x.k0
      have hkv1 := x.k1
      have HX := Lib.hid (And.intro hx hI)
      clear hc hca hx
      by_cases q0 : (x.kind == 7) = true
      · by_cases q1 : (x.k % 2 == 0) = true
        · by_cases q2 : 0 ≤ x.who
          · by_cases q3 : x.who < 8
            · have hbeg : isBeg E k = true := by
                unfold isBeg begB
                rw [HX.out.1, q0, q1]
                simp [q2, q3]
              have HB := Lib.hid hbeg
              have hdl : done.length ≤ 100000 := by
                have h1 := congrArg List.length hI.st
                have h2 := allP_len E len k
                rw [List.length_map] at h1
                omega
              obtain ⟨dl, hdl2⟩ : ∃ dl, done.length = dl := ⟨_, rfl⟩
              have hrow := hI.row
              rw [hdl2] at hrow hdl
              have HD := Lib.hid hdl2
              have hsz := hI.below.size
              clear hbeg hdl2 hI
              go_wp2_with fail
              refine cO.mono ?_
              clear cO
              rintro e w4 ⟨A2, n2, c2, rfl, hin, hb4⟩
              have hrow4 := own_below hrow (Nat.le_refl _) hb4
              have hz4 := hb4.size
              have HI := Lib.hid hin
              have HB4 := Lib.hid hb4
              clear hin hb4
              obtain ⟨cc, hcc⟩ : ∃ cc, (oneS E len k).1 = cc := ⟨_, rfl⟩
              rw [hcc]
              have HC := Lib.hid hcc
              clear hcc
              unfold callV
              go_wp2_with (at_builtin; go_must (refine wpList_append_own_at _ rfl (.tmp 42) (.tmp 46) 36 rfl w.heap.size 40 j0 _ 6 64 Try.underlying36 ji jz0 jz1 jz2 rfl (by decide) _ _ _ rfl (hrow4.alloc _) ⟨w4.heap.size, 0, none⟩ 1 1 (cc.cellsV (.slice A2 n2 c2)) rfl rfl (cells_new w4 _ _) (by simp [Value.oneCell', Cl.cellsV]) (by unfold maxLen; omega) (by omega) (Nat.le_trans hsz (Nat.le_trans hz4 (by simp))) ?_; intro v' w5 hown5 hg5 _ hnew))
              have hg6 : World.grownBy _ w5 (Value.ownBlock _) := hg5
              obtain ⟨hx, hI⟩ := HX.out
              rw [← HC.out, ← HD.out] at hown5
              go_roundw
              case measure => simp [intOf]; omega
              case rel => exact ⟨k + 1, _, by omega, by go_num, hI.next HB.out HB4.out HI.out hg6 hown5⟩
            · have hbeg : isBeg E k = false := by
                unfold isBeg begB
                rw [HX.out.1]
                simp [q3]
              have HI := Lib.hid (hI.skip hbeg)
              clear hbeg cO
              go_wp2
              go_roundw
              case measure => simp [intOf]; omega
              case rel => exact ⟨k + 1, done, by omega, by go_num, HI.out⟩
          · have hbeg : isBeg E k = false := by
              unfold isBeg begB
              rw [HX.out.1]
              simp [q2]
            have HI := Lib.hid (hI.skip hbeg)
            clear hbeg cO
            go_wp2
            go_roundw
            case measure => simp [intOf]; omega
            case rel => exact ⟨k + 1, done, by omega, by go_num, HI.out⟩
        · have q1 : (x.k % 2 == 0) = false := by simpa using q1
          have hbeg : isBeg E k = false := by
            unfold isBeg begB
            rw [HX.out.1]
            rw [q1]; simp
          have HI := Lib.hid (hI.skip hbeg)
          clear hbeg cO
          go_wp2
          go_roundw
          case measure => simp [intOf]; omega
          case rel => exact ⟨k + 1, done, by omega, by go_num, HI.out⟩
      · have q0 : (x.kind == 7) = false := by simpa using q0
        have hbeg : isBeg E k = false := by
          unfold isBeg begB
          rw [HX.out.1]
          rw [q0]; simp
        have HI := Lib.hid (hI.skip hbeg)
        clear hbeg cO
        go_wp2
        go_roundw
        case measure => simp [intOf]; omega
        case rel => exact ⟨k + 1, done, by omega, by go_num, HI.out⟩
    · obtain rfl : k = len := by omega
      go_wp2
      go_ret
      exact ⟨_, done, rfl, by rw [hI.st, allP_all], own_ptR hI.row (Nat.le_refl _) (Nat.le_refl _), fun p hp => row_inn (hI.inn p hp) (Nat.le_refl _) (Nat.le_refl _), hI.below⟩
end Go.Proofs.Ytidedjjpaoagjaa
