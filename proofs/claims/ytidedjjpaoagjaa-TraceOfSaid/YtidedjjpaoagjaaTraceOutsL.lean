/- What a thread put out, and which values a word got, are the document's. For every slice of events and every two integers. -/
import Derived.Test.YtidedjjpaoagjaaTraceWords
namespace Go.Proofs.Ytidedjjpaoagjaa
open Go.ChangeShapes Go.WideShapes Go.ChangeAt Go.RowKit Go.Deep
set_option linter.unusedVariables false
set_option linter.unusedSimpArgs false

theorem traceOuts_long (A : Option Addr) (len cap : Nat) (a b : Value) (w : World) (hl : 400 < len) (hm : len ≤ maxLen) :
    Calls Try.prog 7 #[.slice A len cap, a, b] w fun e w' => e = .returned (.bool true) ∧ Below w.heap.size w w' := by
  unfold maxLen at hm
  have hl' : (400 : Int) < (len : Int) := by omega
  go_enter Try.func7, Try.ntmps7
  go_wp2_with fail
  refine (awake_any _).mono ?_
  rintro e w1 ⟨rfl, hb1⟩
  go_wp2_with fail
  refine (awake_any _).mono ?_
  rintro e w2 ⟨rfl, hb2⟩
  go_wp2
  go_ret
  exact ⟨rfl, step_below hb1 hb2⟩

set_option maxHeartbeats 4000000 in
theorem traceOuts_true (A : Option Addr) (len cap : Nat) (E : Nat → Ev) (t a : Int) (hl : len ≤ 400) (w : World) (hs : SlE w A len 8 (fun i => (E i).cells)) :
    Calls Try.prog 7 #[.slice A len cap, .int .i64 t, .int .i64 a] w fun e w' => e = .returned (.bool true) ∧ Below w.heap.size w w' := by
  have hl' : ¬ (400 : Int) < (len : Int) := by omega
  have HS := Lib.hid hs
  clear hs
  go_enter Try.func7, Try.ntmps7
  go_wp2_with fail
  refine (awake_any _).mono ?_
  rintro e w1 ⟨rfl, hb1⟩
  go_wp2_with fail
  refine (outs_sel A len cap E t (by omega) _ (SlE.step HS.out hb1)).mono ?_
  intro e w2 h2
  obtain ⟨A2, n2, c2, rfl, e2, l2, s2, hb2⟩ := h2.s
  have HE := Lib.hid e2
  clear h2 e2
  go_wp2_with fail
  refine (refOuts_any A len cap E t (by omega) _ (SlE.step (SlE.step HS.out hb1) hb2)).mono ?_
  intro e w3 h3
  obtain ⟨A3, n3, c3, rfl, e3, l3, s3, hb3⟩ := h3.s
  obtain rfl : n2 = n3 := HE.out.trans e3.symm
  have hn : n2 ≤ 1000000 := by
    have := HE.out
    have := sel_len (outF t) E len
    omega
  clear h3 e3
  go_wp2_with fail
  refine (words_yes A2 A3 n2 c2 c3 _ hn _ (Sl.step s2 hb3) s3).mono ?_
  rintro e w4 ⟨rfl, q, rfl⟩
  have hB4 : Below w.heap.size w (w3.drewN q) := (step_below hb1 (step_below hb2 hb3)).grown (row := none) ⟨rfl, rfl, rfl, Nat.le_refl _, fun _ _ _ => rfl⟩ (step_below hb1 (step_below hb2 hb3)).size (fun r e => by cases e)
  have hs4 : SlE (w3.drewN q) A len 8 (fun i => (E i).cells) := SlE.below HS.out (Nat.le_refl _) hB4
  clear HE hn s2 s3 hb1 hb2 hb3
  generalize w3.drewN q = W4 at hB4 hs4 ⊢
  go_wp2_with fail
  refine (values_any A len cap E a (by omega) _ hs4).mono ?_
  intro e w5 h5
  obtain ⟨A5, n5, c5, rfl, e5, l5, s5, hb5⟩ := h5.s
  have HE := Lib.hid e5
  clear h5 e5
  go_wp2_with fail
  refine (refValues_any A len cap E a (by omega) _ (SlE.step hs4 hb5)).mono ?_
  intro e w6 h6
  obtain ⟨A6, n6, c6, rfl, e6, l6, s6, hb6⟩ := h6.s
  obtain rfl : n5 = n6 := HE.out.trans e6.symm
  have hn : n5 ≤ 1000000 := by
    have := HE.out
    have := sel_len (valF a) E len
    omega
  clear h6 e6
  go_wp2_with fail
  refine (words_yes A5 A6 n5 c5 c6 _ hn _ (Sl.step s5 hb6) s6).mono ?_
  rintro e w7 ⟨rfl, q7, rfl⟩
  go_wp2
  go_ret
  exact ⟨rfl, (step_below hB4 (step_below hb5 hb6)).grown (row := none) ⟨rfl, rfl, rfl, Nat.le_refl _, fun _ _ _ => rfl⟩ (step_below hB4 (step_below hb5 hb6)).size (fun r e => by cases e)⟩

set_option maxRecDepth 100000 in
theorem traceOuts_lifted (os : Os) (started : os.Started) (H : Type) (enc : TypeId × Value → H) :
    ReturnsInHanded {} Try.checked os 7 .any (Rows.traceOutsSpec.pre6 enc Try.prog Try.f7 Rows.traceOutsRow.domain false) (Rows.traceOutsSpec.post enc Try.prog Try.f7 false true false false) := by
  refine law_lifted started (by kernel_rfl) Try.func7
    (ChangeSpec.witness6 (enc := enc) (C := Try.checked) false ⟨#[], #[.slice none 0 0, .int .i64 0, .int .i64 0], []⟩ 8 (by kernel_rfl) (by kernel_rfl) (by kernel_rfl) (by kernel_rfl))
    4 rfl (by kernel_rfl) Try.underlying4 (fun ds h => ?_) (by kernel_rfl) ?_
  · rw [show Try.f7.params.size = 3 from by kernel_rfl] at h
    match ds, h with
    | [_, _, _], _ => rfl
  intro W base args ds p hval hA hlt hsz
  rw [Try.params7] at hA hval hsz
  obtain ⟨v0, v1, v2, d0, d1, d2, p0, p1, p2, rfl, rfl, rfl, h0, h1, h2⟩ := trodAll_three hA
  obtain ⟨A, len, cap, E, rfl, hlc, hcm, hsl⟩ := open_evs (hval 0 22 v0 rfl rfl) h0 (fun x hx => hlt x (by simp [hx]))
  obtain ⟨t, rfl, rfl, rfl, ts⟩ := open_int Try.underlying3 (hval 1 3 v1 rfl rfl) h1
  obtain ⟨a, rfl, rfl, rfl, as'⟩ := open_int Try.underlying3 (hval 2 3 v2 rfl rfl) h2
  by_cases h : len ≤ 400
  · exact traceOuts_true A len cap E t a h W hsl
  · exact traceOuts_long A len cap _ _ W (by omega) (by omega)

theorem traceOuts_holds : Rows.TraceOutsSaid :=
  OpenClaim.holds_of_wide 7 Try.f7 rfl rfl rfl rfl rfl rfl rfl ⟨rfl, rfl, rfl, rfl, rfl⟩ rfl rfl rfl rfl rfl (by kernel_rfl) Try.func7 (by kernel_rfl)
    (of_decide_eq_true (by kernel_rfl)) (by unfold Func.isWrapper; first | (rw [if_pos (by decide +kernel)]; kernel_rfl) | (rw [if_neg (by decide +kernel)]; exact ⟨rfl, rfl⟩))
    (fun os started H enc _ => traceOuts_lifted os started H enc)
end Go.Proofs.Ytidedjjpaoagjaa
