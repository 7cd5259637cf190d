/- BufPlays returns true whatever befalls a buffer, and leaves old memory as it was: the row. -/
import Derived.Test.YtaanmamgmjhegaaBufPlays
namespace Go.Proofs.Ytaanmamgmjhegaa
open Go.ChangeShapes Go.WideShapes Go.ChangeAt Go.RowKit Go.Deep
set_option linter.unusedVariables false
set_option linter.unusedSimpArgs false

set_option maxRecDepth 100000 in
theorem bufPlays_long (z : Value) (A : Option Addr) (len cap : Nat) (y : Value) (hl : 300 < len) (hm : len ≤ maxLen) (w : World) :
    Calls Try.prog 4 #[z, .slice A len cap, y] w fun e w' => e = .returned (.bool true) ∧ Below w.heap.size w w' := by
  unfold maxLen at hm
  have hl' : (300 : Int) < (len : Int) := by omega
  go_enter Try.func4, Try.ntmps4
  go_wp2_with fail
  refine (awake05_any _).mono ?_
  rintro e' w1 ⟨rfl, hb1⟩
  go_wp2_with fail
  refine (awake05_any _).mono ?_
  rintro e' w2 ⟨rfl, hb2⟩
  go_wp2
  go_ret
  exact ⟨rfl, step_below hb1 hb2⟩

set_option maxRecDepth 100000 in
theorem bufPlays_room (room : Int) (h : room < 1 ∨ 16 < room) (A : Option Addr) (len cap : Nat) (addr : Int) (hl : len ≤ 300) (w : World) :
    Calls Try.prog 4 #[.int .i64 room, .slice A len cap, .int .i64 addr] w fun e w' => e = .returned (.bool true) ∧ Below w.heap.size w w' := by
  have hE := empty_buf 0 (by decide) (by decide)
  have cN := new_any room
  rw [if_neg (by omega), if_neg (by omega)] at cN
  have cLe := len_any _ _ _ hE
  have cFu := full_any _ _ _ hE
  rw [decide_eq_true (by simp)] at cFu
  generalize hcs0 : emptyCells 0 = cs0 at hE cN cLe cFu
  have hz : cs0.size = (emptyCells 0).size := by rw [hcs0]
  go_enter Try.func4, Try.ntmps4
  go_wp2_with fail
  refine (awake05_any _).mono ?_
  rintro e' w1 ⟨rfl, hb1⟩
  go_wp2_with fail
  refine (cN _).mono ?_
  rintro e' w2 ⟨rfl, hb2⟩
  have hB2 := step_below hb1 hb2
  clear hb1 hb2 cN
  rcases h with h | h
  all_goals
    go_wp2_with (first
      | (refine wpList_store_row rfl 29 (.tmp 7) (.tmp 31) rfl _ rfl cs0 rfl 29 (emptyCells 0) (Blk.new _ _ _) hz.symm hE.info hE.all ?_; intro w3 hb3 hg3; have hB3 := below_row (hB2.alloc hB2.size _) hg3 (by have := hB2.size; simp; omega) hB2.size)
      | (go_at_call 15; refine (cLe _).mono ?_; rintro e' w6 ⟨rfl, hb6⟩; have hB6 := step_below hB3 hb6; have hbr6 := hb3.below hb6 hb3.lt; clear hb3 hB3 hb6)
      | (go_at_call 16; refine (cFu _).mono ?_; rintro e' w7 ⟨rfl, hb7⟩; have hB7 := step_below hB6 hb7)
      | (refine wpList_load_rowG (by rfl) 29 (.tmp 7) rfl _ rfl 29 cs0 (0, 0) _ hb3 Try.underlying29 rfl hE.info ?_)
      | (refine wpList_load_rowG (by rfl) 29 (.tmp 7) rfl _ rfl 29 cs0 (0, 0) _ hbr6 Try.underlying29 rfl hE.info ?_))
    go_ret
    exact ⟨by first | rfl | (simp; done), hB7⟩

section
variable {H : Type} {enc : TypeId × Value → H} {W : World}
theorem elem_act (n : Nat) (cs : List Value) (x : DataW H × List MemPlace) (h : DataW.trod enc Try.prog W 0 (fun _ => true) true n 41 cs = some x) : ∃ x : Bool × Ent, cs = actV x ∧ True := by
  obtain ⟨y0, y1, m, rfl, hlen, h0, h1⟩ := trod_struct2 Try.underlying41 h
  have hcl : cs.length = 3 := hlen.trans (by kernel_rfl)
  match cs, hcl with
  | [c0, c1, c2], _ =>
    obtain ⟨p, e0, _⟩ := DataW.trod_bool Try.underlying4 (show DataW.trod enc Try.prog W 0 (fun _ => true) true m 4 [c0] = some y0 from h0)
    obtain ⟨z, e1, _⟩ := elem_ent m [c1, c2] y1 h1
    simp only [List.cons.injEq, and_true] at e0
    subst e0
    have e1' : c1 = .int .i64 z.1 ∧ c2 = .int .u32 z.2 := by simpa [entV] using e1
    obtain ⟨rfl, rfl⟩ := e1'
    exact ⟨(p, z), rfl, trivial⟩
theorem open_acts {b0 : Nat} {v : Value} {d : DataW H} {p : List MemPlace} (hv : Value.okWide Try.prog W .any b0 39 v) (h : DataW.Trod enc Try.prog W 0 (fun _ => true) true 39 v d p) :
    ∃ (A : Option Addr) (len cap : Nat) (F : Nat → Bool × Ent), v = .slice A len cap ∧ len ≤ cap ∧ cap ≤ maxLen ∧ SlE W A len 3 (fun i => actV (F i)) := by
  obtain ⟨a0, len, cap, rfl⟩ := okWide_slice Try.underlying39 hv
  obtain ⟨fuel, hf⟩ := h
  obtain ⟨A, len', cap', F, e, hl, hm, hs, _⟩ := open_slc (size := 3) Try.underlying39 (by kernel_rfl) (by decide) actV (fun _ : Bool × Ent => True) elem_act hf
  have e' : Value.slice a0 len cap = .slice A len' cap' := by simpa [Value.cells] using e
  exact ⟨A, len', cap', F, e', hl, hm, hs⟩
end

set_option maxRecDepth 100000 in
theorem bufPlays_lifted (os : Os) (started : os.Started) (H : Type) (enc : TypeId × Value → H) :
    ReturnsInHanded {} Try.checked os 4 .any (Rows.bufPlaysSpec.pre6 enc Try.prog Try.f4 Rows.bufPlaysRow.domain false) (Rows.bufPlaysSpec.post enc Try.prog Try.f4 false true false false) := by
  refine law_lifted started (by kernel_rfl) Try.func4
    (ChangeSpec.witness6 (enc := enc) (C := Try.checked) false ⟨#[], #[.int .i64 0, .slice none 0 0, .int .i64 0], []⟩ 8 (by kernel_rfl) (by kernel_rfl) (by kernel_rfl) (by kernel_rfl))
    4 rfl (by kernel_rfl) Try.underlying4 (fun ds h => ?_) (by kernel_rfl) ?_
  · rw [show Try.f4.params.size = 3 from by kernel_rfl] at h
    match ds, h with
    | [_, _, _], _ => rfl
  intro W base args ds p hval hA hlt hsz
  rw [Try.params4] at hA hval hsz
  obtain ⟨v0, v1, v2, d0, d1, d2, p0, p1, p2, rfl, rfl, rfl, h0, h1, h2⟩ := trodAll_three hA
  obtain ⟨room, rfl, rfl, rfl, wr⟩ := open_int Try.underlying3 (hval 0 3 v0 rfl rfl) h0
  obtain ⟨A, n, cap, F, rfl, hlc, hcm, hs⟩ := open_acts (hval 1 39 v1 rfl rfl) h1
  obtain ⟨addr, rfl, rfl, rfl, wa⟩ := open_int Try.underlying3 (hval 2 3 v2 rfl rfl) h2
  have hr := bounds_i64 wr
  by_cases hl : n ≤ 300
  · by_cases hroom : 1 ≤ room ∧ room ≤ 16
    · exact bufPlays_true room hroom.1 hroom.2 A n cap F addr hl W hs
    · exact bufPlays_room room (by omega) A n cap addr hl W
  · exact bufPlays_long _ A n cap _ (by omega) (by omega) W

theorem bufPlays_holds : Rows.BufPlaysSaid :=
  OpenClaim.holds_of_wide 4 Try.f4 rfl rfl rfl rfl rfl rfl rfl ⟨rfl, rfl, rfl, rfl, rfl⟩ rfl rfl rfl rfl rfl (by kernel_rfl) Try.func4 (by kernel_rfl)
    (of_decide_eq_true (by kernel_rfl)) (by unfold Func.isWrapper; first | (rw [if_pos (by decide +kernel)]; kernel_rfl) | (rw [if_neg (by decide +kernel)]; exact ⟨rfl, rfl⟩))
    (fun os started H enc _ => bufPlays_lifted os started H enc)

end Go.Proofs.Ytaanmamgmjhegaa
