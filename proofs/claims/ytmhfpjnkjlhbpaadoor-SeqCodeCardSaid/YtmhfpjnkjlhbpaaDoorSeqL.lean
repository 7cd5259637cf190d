/- SeqCode: the program's code and the document's. -/
import Derived.Test.YtmhfpjnkjlhbpaaDoorSeqNo
import Derived.Test.YtmhfpjnkjlhbpaaDoorRefT9
namespace Go.Proofs.YtmhfpjnkjlhbpaaDoor
open Go.ChangeShapes Go.WideShapes Go.ChangeAt Go.RowKit Go.Deep
set_option linter.unusedVariables false
set_option maxRecDepth 100000
set_option linter.unusedSimpArgs false

theorem read2_len : (BB.e.sread 16 2).close.out.length = 10 := by kernel_rfl
set_option maxHeartbeats 1000000 in
theorem awake19 (W : World) (hT : Tab W) : Calls Tryd.prog 7 #[] W fun e W' => e = .returned (.bool true) ∧ Below W.heap.size W W' := by
  have cC := code_read 2 1 16 0 0 (by decide) (by decide) (by decide) (by decide) (by decide) W hT
  go_enter Tryd.func7, Tryd.ntmps7
  go_wp2_with fail
  refine cC.mono ?_
  rintro e W1 ⟨⟨v, rfl, og, cap, cs, rfl, _⟩, hB⟩
  rw [read2_len]
  clear cC
  go_wp2
  go_ret
  exact ⟨rfl, hB⟩
/-- The document's lines. -/
def seqT (n arg : Nat) (call : Int) : List TLn := if call = 1 then sAcqL else if call = 2 then sRelL else if call = 3 then sReadL n else sPutL arg
theorem OutI.sle {W W' : World} {v : Value} {l : List Ins} (h : OutI W v l W') : ∃ A c, v = .slice A l.length c ∧ SlE W' A l.length 5 (fun i => (l.getD i default).cells) := by
  obtain ⟨og, cap, cs, rfl, hb, hs, hl, hc, ho, hi⟩ := h
  refine ⟨_, _, rfl, fun _ => ⟨og, 0, rfl, hb.lt, fun i hii j u hu => ?_⟩⟩
  rw [Nat.zero_add]
  exact (hb.cell _).trans (hi i hii j u hu)
theorem seq_yes (n arg base t : Nat) (call th : Int) (hn : 1 ≤ n ∧ n ≤ 3) (ht : 1 ≤ th ∧ th ≤ 8) (h0 : (t : Int) < th) (hc : 1 ≤ call ∧ call ≤ 4) (hb : base ≤ 65535) (hp : call = 4 → arg < n) (W : World) (hT : Tab W) :
    Calls Tryd.prog 8 #[.agg #[.int .i64 9, .int .i64 (n : Int), .int .i64 0, .int .i64 0], .int .i64 call, .int .i64 th, .int .i64 (t : Int), .int .u32 (base : Int), .int .u32 (arg : Int)] W fun e W' => (∃ v, e = .returned (.tuple #[v, .bool true]) ∧ OutI W v (codeT base t (seqT n arg call)) W') ∧ Below W.heap.size W W' := by
  have h4 : call = 1 ∨ call = 2 ∨ call = 3 ∨ call = 4 := by omega
  rcases h4 with rfl | rfl | rfl | rfl
  · rw [show seqT n arg 1 = sAcqL from rfl, sAcq_code]
    exact code_acq n th base t arg hn ht (by omega) (by omega) (by omega) W hT
  · rw [show seqT n arg 2 = sRelL from rfl, sRel_code]
    exact code_rel n th base t arg hn ht (by omega) (by omega) (by omega) W hT
  · rw [show seqT n arg 3 = sReadL n from rfl, sRead_code base t n hn]
    exact code_read n th base t arg hn ht (by omega) (by omega) (by omega) W hT
  · have := hp rfl
    rw [show seqT n arg 4 = sPutL arg from rfl, sPut_code base t arg (by omega)]
    exact code_put n th base t arg hn ht (by omega) (by omega) (by omega) W hT
theorem text_yes (n arg : Nat) (call : Int) (hn : 1 ≤ n ∧ n ≤ 3) (hc : 1 ≤ call ∧ call ≤ 4) (hp : call = 4 → arg < n) (m : Int) (hm : arg ≤ 9 → m = arg) (w : World) :
    Calls Tryd.prog 11 #[.int .i64 call, .int .i64 (n : Int), .int .i64 m] w fun e w' => e = .returned (.string (ba (tplT (seqT n arg call)))) ∧ Below w.heap.size w w' := by
  have h4 : call = 1 ∨ call = 2 ∨ call = 3 ∨ call = 4 := by omega
  rcases h4 with rfl | rfl | rfl | rfl
  · exact r19_acq n m w
  · exact r19_rel n m w
  · exact r19_read n hn.2 m w
  · have := hp rfl
    rw [hm (by omega)]
    exact r19_put n arg this hn.2 w
theorem seqT_ok (n arg base t : Nat) (call : Int) (hn : 1 ≤ n ∧ n ≤ 3) (hc : 1 ≤ call ∧ call ≤ 4) (hp : call = 4 → arg < n) : TOk base t (seqT n arg call) := by
  have h4 : call = 1 ∨ call = 2 ∨ call = 3 ∨ call = 4 := by omega
  rcases h4 with rfl | rfl | rfl | rfl
  · exact sAcq_ok base t
  · exact sRel_ok base t
  · exact sRead_ok base t n hn
  · have := hp rfl
    exact sPut_ok base t arg (by omega)
theorem ref_code (T : List TLn) (base t : Nat) (hb : base ≤ 65535) (ht : t ≤ 8) (hT : TOk base t T) (w : World) :
    Calls Tryd.prog 10 #[.string (ba (tplT T)), .int .i64 (base : Int), .int .i64 (t : Int)] w fun e w' => (∃ A c, e = .returned (.tuple #[.slice A (codeT base t T).length c, .int .i64 1]) ∧ SlE w' A (codeT base t T).length 5 (fun i => ((codeT base t T).getD i default).cells)) ∧ Below w.heap.size w w' := by
  refine (r15_code T base t (by omega) (by omega) hT.pos hT.len hT.ok hT.good hT.once hT.there w).mono ?_
  rintro e w' ⟨⟨v, rfl, hr⟩, hB⟩
  obtain ⟨A, c, rfl, _, h⟩ := own_sle Ins.cells (fun _ => rfl) default _ hr
  exact ⟨⟨A, c, rfl, h⟩, hB⟩
theorem seqT_len (n arg base t : Nat) (call : Int) (hn : 1 ≤ n ∧ n ≤ 3) (hc : 1 ≤ call ∧ call ≤ 4) (hp : call = 4 → arg < n) : (codeT base t (seqT n arg call)).length ≤ 1000 := by
  have h := (seqT_ok n arg base t call hn hc hp).good
  unfold goodB at h
  simp only [Bool.and_eq_true, decide_eq_true_eq] at h
  have h2 : ∀ (L l : List Ln), (fixL L l).length ≤ l.length := fun L l => List.length_filterMap_le _ _
  have := h2 ((seqT n arg call).map (TLn.inst base t)) ((seqT n arg call).map (TLn.inst base t))
  rw [List.length_map] at this
  unfold codeT
  omega
end Go.Proofs.YtmhfpjnkjlhbpaaDoor
