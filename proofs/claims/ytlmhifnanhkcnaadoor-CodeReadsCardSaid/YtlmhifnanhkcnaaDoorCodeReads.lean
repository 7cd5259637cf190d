/- CodeReads returns true for all bytes, in a world that holds the tables: the row and the card. -/
import Derived.Test.YtlmhifnanhkcnaaDoorCodeRefRead
import Derived.Test.YtlmhifnanhkcnaaDoorCodeSame
import Derived.Test.YtlmhifnanhkcnaaDoorCodeSmall
import Derived.Test.YtlmhifnanhkcnaaDoorCard
namespace Go.Proofs.YtlmhifnanhkcnaaDoor
open Go.ChangeShapes Go.WideShapes Go.ChangeAt Go.RowKit Go.Deep
set_option linter.unusedVariables false
set_option linter.unusedSimpArgs false

/-- The program that is no program. -/
def pg0 : Pg := ⟨none, 0, 0, fun _ => default, none, 0, 0, fun _ => 0, 0⟩
theorem pg0_ok : pg0.Ok := ⟨Nat.le_refl _, Nat.zero_le _, Nat.le_refl _, Nat.zero_le _, fun t ht => absurd ht (Nat.not_lt_zero t), fun t ht => absurd ht (Nat.not_lt_zero t), by decide, by decide⟩
theorem pg0_at (w : World) : pg0.At w := ⟨Sl.nil, fun t ht => absurd ht (Nat.not_lt_zero t), Sl.nil⟩
theorem Rep.refl (p : Pg) : Rep p p := ⟨rfl, rfl, rfl, fun _ _ => rfl, fun _ _ _ _ => rfl, fun _ _ => rfl⟩

/-- What reading gave: a program, whatever the error. -/
theorem rd_prog {Z : Nat → Int} {len : Nat} {n e : Int} {w w' : World} {r : Ending} (h : RdPost Z len n e w r w') : ∃ p : Pg, r = .returned (.tuple #[p.val, .int .i64 n, .int .i64 e]) ∧ (e = 0 → Rep p (rdP Z len)) ∧ (e ≠ 0 → p = pg0) ∧ p.Ok ∧ p.At w' ∧ Below w.heap.size w w' := by
  obtain ⟨v, rfl, h0, h1, hb⟩ := h
  by_cases he : e = 0
  · obtain ⟨p, rfl, hr, ho, ha⟩ := h1 he
    exact ⟨p, rfl, fun _ => hr, fun h => absurd he h, ho, ha, hb⟩
  · obtain rfl := h0 he
    exact ⟨pg0, rfl, fun h => absurd h he, fun _ => rfl, pg0_ok, pg0_at _, hb⟩

theorem codeReads_long (A : Option Addr) (len cap : Nat) (w : World) (hl : 16000 < len) (hm : len ≤ maxLen) :
    Calls Tryd.prog 8 #[.slice A len cap] w fun e w' => e = .returned (.bool true) ∧ Below w.heap.size w w' := by
  unfold maxLen at hm
  go_enter Tryd.func8, Tryd.ntmps8
  have hl' : (16000 : Int) < (len : Int) := by omega
  go_wp2_with fail
  refine (awake_any _).mono ?_
  rintro e w0 ⟨rfl, hb0⟩
  go_wp2_with fail
  refine (awake_any _).mono ?_
  rintro e w1 ⟨rfl, hb1⟩
  go_wp2
  go_ret
  exact ⟨rfl, step_below hb0 hb1⟩

set_option maxHeartbeats 2000000 in
theorem codeReads_true (A : Option Addr) (len cap : Nat) (Z : Nat → Int) (hlc : len ≤ cap) (hl : len ≤ 16000) (w : World) (ht : Tab w) (hsl : Sl w A len (fun i => .int .u8 (Z i))) (hz : ∀ i, i < len → 0 ≤ Z i ∧ Z i ≤ 255) :
    Calls Tryd.prog 8 #[.slice A len cap] w fun e w' => e = .returned (.bool true) ∧ Below w.heap.size w w' := by
  obtain ⟨n, e, hO⟩ := rdO_some Z len
  have hl' : ¬ (16000 : Int) < (len : Int) := by omega
  go_enter Tryd.func8, Tryd.ntmps8
  go_wp2_with fail
  refine (awake_any _).mono ?_
  rintro e1 w1 ⟨rfl, hb1⟩
  go_wp2_with fail
  refine (read_any A len cap Z hlc (by omega) _ (ht.step hb1) (hsl.step hb1) hz n e hO).mono ?_
  intro e2 w2 h2
  obtain ⟨p, rfl, hp1, hp2, hpo, hpa, hb2⟩ := rd_prog h2
  have hB2 := step_below hb1 hb2
  have hs2 := hsl.step hB2
  have HP := Lib.hid (And.intro hp1 (And.intro hp2 hpo))
  clear h2 hb1 hb2 ht hsl hp1 hp2 hpo
  have hpv : p.val = .agg #[.slice p.A p.n p.cap, .slice p.mA p.m p.mcap, .int .i64 p.room] := rfl
  rw [hpv]
  clear hpv
  have hq := Blk.new w2 38 #[.slice p.A p.n p.cap, .slice p.mA p.m p.mcap, .int .i64 p.room]
  have hB3 := hB2.alloc hB2.size (Obj.cells #[.slice p.A p.n p.cap, .slice p.mA p.m p.mcap, .int .i64 p.room] 38)
  have hat3 := hpa.alloc (Obj.cells #[.slice p.A p.n p.cap, .slice p.mA p.m p.mcap, .int .i64 p.room] 38)
  have hs3 := hs2.step ((Below.refl _ w2).alloc (Nat.le_refl _) (Obj.cells #[.slice p.A p.n p.cap, .slice p.mA p.m p.mcap, .int .i64 p.room] 38))
  clear hs2 hpa hB2
  go_wp2_with fail
  refine (refRead_any A len cap Z (by omega) _ hs3 hz n e hO).mono ?_
  intro e4 w4 h4
  obtain ⟨q, rfl, hq1, hq2, hqo, hqa, hb4⟩ := rd_prog h4
  have hB4 := step_below hB3 hb4
  have hat4 := hat3.step hb4
  have hqk := hq.below hb4 hq.lt
  have hrep : Rep p q := by
    by_cases he : e = 0
    · exact (HP.out.1 he).trans (hq1 he).symm
    · rw [HP.out.2.1 he, hq2 he]; exact Rep.refl _
  have hS := same_rep p q hrep HP.out.2.2 hqo
  have hqv : q.val = .agg #[.slice q.A q.n q.cap, .slice q.mA q.m q.mcap, .int .i64 q.room] := rfl
  have hpv : p.val = .agg #[.slice p.A p.n p.cap, .slice p.mA p.m p.mcap, .int .i64 p.room] := rfl
  rw [hqv]
  rw [hqv, hpv] at hS
  clear hpv hqv
  have hlt4 := hqk.lt
  have hB5 := hB4.alloc hB4.size (Obj.cells #[.slice q.A q.n q.cap, .slice q.mA q.m q.mcap, .int .i64 q.room] 38)
  have hp5 := hqk.alloc (Obj.cells #[.slice q.A q.n q.cap, .slice q.mA q.m q.mcap, .int .i64 q.room] 38)
  have hq5 := Blk.new w4 38 #[.slice q.A q.n q.cap, .slice q.mA q.m q.mcap, .int .i64 q.room]
  have HA := Lib.hid (And.intro (hat4.alloc (Obj.cells #[.slice q.A q.n q.cap, .slice q.mA q.m q.mcap, .int .i64 q.room] 38)) (hqa.alloc (Obj.cells #[.slice q.A q.n q.cap, .slice q.mA q.m q.mcap, .int .i64 q.room] 38)))
  have HS := Lib.hid hS
  have g0 := hp5.cell 0
  have g1 := hp5.cell 1
  have g2 := hp5.cell 2
  have k0 := hq5.cell 0
  have k1 := hq5.cell 1
  have k2 := hq5.cell 2
  simp only [List.getElem?_toArray, List.getElem?_cons_zero, List.getElem?_cons_succ] at g0 g1 g2 k0 k1 k2
  clear h4 hB4 hB3 hb4 hqk hq hat3 hat4 hqa hs3 hS hrep hq1 hq2 hqo hO
  go_wp2_with fail
  refine (HS.out _ HA.out.1 HA.out.2).mono ?_
  rintro r6 w6 ⟨rfl, hb6⟩
  have hB6 := step_below hB5 hb6
  go_wp2
  go_ret
  exact ⟨rfl, hB6⟩

theorem codeReads_met (os : Os) : laidMet Tryd.prog theLaid ((laidWorld os).forCall (fun _ _ => 0) ⟨#[], #[.slice none 0 0], []⟩).memory :=
  laidMet_of_run' 8 (by kernel_rfl) (by kernel_rfl)
theorem codeReads_reads (os : Os) {H : Type} (enc : TypeId × Value → H) : ∃ places, DataW.whole enc Tryd.prog ((laidWorld os).forCall (fun _ _ => 0) ⟨#[], #[.slice none 0 0], []⟩).memory Tryd.f8.params.toList Rows.codeReadsSpec.vars false (#[.slice none 0 0] : Array Value).toList 8 = some ([.nil], [], places) :=
  ⟨[], by kernel_rfl⟩

set_option maxRecDepth 100000 in
theorem codeReads_lifted (os : Os) (started : os.Started) (H : Type) (enc : TypeId × Value → H) (F : Stop.Interp) :
    ReturnsInHanded {} Tryd.checked os 8 .any ((OpenSpec.ofChange Rows.codeReadsSpec).preRow enc Tryd.prog Tryd.f8 Rows.codeReadsRow.domain false Rows.codeReadsRow.laid) (((OpenSpec.ofChange Rows.codeReadsSpec).at F).post enc Tryd.prog Tryd.f8 false true false false) := by
  obtain ⟨places, hx⟩ := codeReads_reads os enc
  refine card_lifted started (by kernel_rfl) Tryd.func8
    (witness_row_at (enc := enc) (C := Tryd.checked) false (laidWorld os) #[.slice none 0 0] rfl (by kernel_rfl) (by kernel_rfl) (by kernel_rfl)
      (OpenSpec.preRow_of_cond 8 hx (by kernel_rfl) (fun k hk => by cases hk) (by kernel_rfl) (codeReads_met os)))
    4 rfl (by kernel_rfl) Tryd.underlying4 (fun ds h => ?_) (by kernel_rfl) ?_
  · rw [show Tryd.f8.params.size = 1 from by kernel_rfl] at h
    match ds, h with
    | [_], _ => rfl
  intro W base args ds p hT hval hA hlt hsz
  rw [Tryd.params8] at hA hval hsz
  obtain ⟨v0, d0, rfl, rfl, h0⟩ := trodAll_one hA
  obtain ⟨A, len, cap, Z, rfl, hlc, hcm, hsl, hwz⟩ := open_sl_ints Tryd.underlying50 Tryd.underlying5 (by kernel_rfl) (hval 0 50 v0 rfl rfl) h0 hlt
  by_cases h : len ≤ 16000
  · exact codeReads_true A len cap Z hlc h W hT hsl (fun i hi => bounds_u8 (hwz i hi))
  · exact codeReads_long A len cap W (by omega) (by omega)

theorem codeReads_said : Rows.CodeReadsSaid :=
  OpenClaim.holds_of_cond 8 Tryd.f8 rfl rfl rfl rfl rfl rfl rfl ⟨rfl, rfl, rfl, rfl, rfl⟩ rfl rfl rfl rfl rfl (by kernel_rfl) Tryd.func8 (by kernel_rfl)
    (of_decide_eq_true (by kernel_rfl)) (by unfold Func.isWrapper; first | (rw [if_pos (by decide +kernel)]; kernel_rfl) | (rw [if_neg (by decide +kernel)]; exact ⟨rfl, rfl⟩))
    (fun os started H enc _ F => by rw [OpenClaim.pre_eq_preRow]; exact codeReads_lifted os started H enc F)

theorem codeReads_plain (f : FuncId) (fn : Func) (hf : Tryd.pinned.checked.prog.funcNamed "deadlatch/deadlatchlaw03.CodeReads" = some f) (hfn : Tryd.pinned.checked.prog.funcs[f]? = some fn) :
    false = Tryd.pinned.checked.prog.looks [] ∧ ∀ (j : Nat) t, fn.params[j]? = some t → Tryd.pinned.checked.prog.wantsStandIn t = false := by
  obtain rfl : f = 8 := Option.some.inj ((show Tryd.prog.funcNamed "deadlatch/deadlatchlaw03.CodeReads" = some 8 by kernel_rfl).symm.trans hf) |>.symm
  obtain rfl : fn = Tryd.f8 := (Option.some.inj (Tryd.func8.symm.trans hfn)).symm
  refine ⟨by kernel_rfl, fun j t ht => ?_⟩
  rw [Tryd.params8] at ht
  have hm : t = 50 := by simpa using Array.mem_of_getElem? ht
  rcases hm with rfl
  · exact (show Tryd.prog.wantsStandIn 50 = false by kernel_rfl)

theorem codeReads_card : Rows.CodeReadsCardSaid :=
  Claim7.holds_tied_plain_at .later [] _ _ _ _ codeReads_said (fun _ h => by cases h) (by kernel_rfl) (fun _ h => by cases h) codeReads_row_tie rfl ⟨rfl, rfl⟩ (by kernel_rfl) rfl codeReads_plain (by kernel_rfl)
end Go.Proofs.YtlmhifnanhkcnaaDoor
