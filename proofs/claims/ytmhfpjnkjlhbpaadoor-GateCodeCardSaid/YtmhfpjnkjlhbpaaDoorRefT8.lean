/- ref15's parts of texts, Code; law15's Same (printed by gen/reft8.py). -/
import Derived.Test.YtmhfpjnkjlhbpaaDoorRefT7
import Derived.Test.YtmhfpjnkjlhbpaaDoorTpl
import Derived.Laws.StructEq
namespace Go.Proofs.YtmhfpjnkjlhbpaaDoor
open Go.ChangeShapes Go.WideShapes Go.ChangeAt Go.RowKit Go.Deep
set_option linter.unusedVariables false
set_option maxRecDepth 100000
set_option linter.unusedSimpArgs false

def endT : List UInt8 := [115, 101, 116, 32, 114, 55, 32, 48, 10, 101, 110, 100, 58, 10]
def claimT : List UInt8 := [108, 111, 97, 100, 32, 114, 52, 32, 91, 98, 93, 10, 115, 101, 116, 32, 114, 53, 32, 36, 10, 115, 97, 109, 101, 32, 114, 54, 32, 114, 52, 32, 114, 53, 10, 122, 101, 114, 111, 32, 114, 54, 32, 64, 102, 114, 101, 101, 10, 115, 101, 116, 32, 114, 55, 32, 49, 10, 106, 117, 109, 112, 32, 64, 101, 110, 100, 10, 102, 114, 101, 101, 58, 10]
def proveT : List UInt8 := [108, 111, 97, 100, 32, 114, 52, 32, 91, 98, 93, 10, 115, 101, 116, 32, 114, 53, 32, 36, 10, 115, 97, 109, 101, 32, 114, 54, 32, 114, 52, 32, 114, 53, 10, 115, 111, 109, 101, 32, 114, 54, 32, 64, 109, 105, 110, 101, 10, 115, 101, 116, 32, 114, 55, 32, 50, 10, 106, 117, 109, 112, 32, 64, 101, 110, 100, 10, 109, 105, 110, 101, 58, 10]
theorem ba_eqT {b : ByteArray} {s : List UInt8} (h : (b.data.toList == s) = true) : b = ba s := by
  refine ba_ext ?_
  rw [beq_iff_eq] at h ⊢
  rw [h]; rfl
theorem r15_end (w : World) : Calls Tryd.prog 38 #[] w fun e w' => e = .returned (.string (ba endT)) ∧ w' = w := by
  go_enter Tryd.func38, Tryd.ntmps38
  go_wp2
  go_ret
  exact ⟨rfl, rfl⟩
theorem r15_claim (w : World) : Calls Tryd.prog 37 #[.string ⟨#[98]⟩] w fun e w' => e = .returned (.string (ba claimT)) ∧ w' = w := by
  go_enter Tryd.func37, Tryd.ntmps37
  go_wp2
  go_ret
  exact ⟨congrArg (fun b => Ending.returned (.string b)) (ba_eqT (by decide +kernel)), rfl⟩
theorem r15_prove (w : World) : Calls Tryd.prog 39 #[.string ⟨#[98]⟩] w fun e w' => e = .returned (.string (ba proveT)) ∧ w' = w := by
  go_enter Tryd.func39, Tryd.ntmps39
  go_wp2
  go_ret
  exact ⟨congrArg (fun b => Ending.returned (.string b)) (ba_eqT (by decide +kernel)), rfl⟩
/-- What a text with gaps comes to. -/
def codeT (base t : Nat) (T : List TLn) : List Ins := fixL (T.map (TLn.inst base t)) (T.map (TLn.inst base t))
set_option maxHeartbeats 1000000 in
theorem r15_code (T : List TLn) (base t : Nat) (hb : base ≤ 4000000000) (ht : t ≤ 1000) (h0 : 0 < (tplT T).length) (hs : (tplT T).length ≤ 2000) (hk : T.all TLn.okB = true) (hg : goodB T = true) (ho : onceB (T.map (TLn.inst base t)) = true) (hth : thereB (T.map (TLn.inst base t)) = true) (w : World) :
    Calls Tryd.prog 10 #[.string (ba (tplT T)), .int .i64 (base : Int), .int .i64 (t : Int)] w fun e w' => (∃ v, e = .returned (.tuple #[v, .int .i64 1]) ∧ w'.ownsRow w.heap.size 41 5 v (codeT base t T).length ((codeT base t T).flatMap Ins.cells)) ∧ Below w.heap.size w w' := by
  have cF := r15_fill (tplT T) base t hs hb ht w
  rw [fill_txt base t T hk] at cF
  have cP := r4_parse _ (good_tpl base t (by omega) ht T hg ho hth)
  have f1 : (ba (tplT T)).toList.isEmpty = false := by
    rw [ba_toList]
    cases q : tplT T with
    | nil => rw [q] at h0; simp at h0
    | cons a l => rfl
  unfold codeT
  rw [str_ba] at cF
  go_enter Tryd.func10, Tryd.ntmps10
  go_wp2_with fail
  refine cF.mono ?_
  rintro e W1 ⟨rfl, hB1⟩
  go_wp2_with fail
  refine (cP W1).mono ?_
  rintro e W2 ⟨⟨v, rfl, hr⟩, hB2⟩
  have HF := Lib.hid (And.intro (own_monoT hr hB1.size) (step_below hB1 hB2))
  obtain ⟨A, cap, rfl, _, _⟩ := own_cap hr
  clear cF cP hr hB1 hB2
  go_wp2
  go_ret2
  exact ⟨⟨_, rfl, HF.out.1⟩, HF.out.2⟩
/-! ### Same -/
theorem partR_int {P : Program} (w : World) {e : TypeId} {k : IntKind} (he : P.underlying e = some (.int k)) {xs : Array Value} {off : Nat} {v : Value} (hx : xs[off]? = some v) : (part e xs off).run P w = .ok v w := by
  simp [part, isAgg, run_underlying he, hx]
theorem insR_eql (i : Ins) (w : World) : (binOp .eql 41 (.agg (insV i)) (.agg (insV i))).run Tryd.prog w = .ok (.bool true) w := by
  rw [run_eql_struct, show (10000 : Nat) = 9999 + 1 from rfl, run_equalIn_struct w 9999 41 _ _ (by kernel_rfl) (by kernel_rfl)]
  have hf : (Tryd.prog.fieldsOf 41) = (match Tryd.prog.underlying 41 with | some (.struct fs) => fs | _ => #[]) := rfl
  rw [hf, Tryd.underlying41]
  have p0 : (part 3 (insV i) 0).run Tryd.prog w = .ok (.int .i64 i.op) w := partR_int w Tryd.underlying3 rfl
  have p1 : (part 3 (insV i) 1).run Tryd.prog w = .ok (.int .i64 i.a) w := partR_int w Tryd.underlying3 rfl
  have p2 : (part 3 (insV i) 2).run Tryd.prog w = .ok (.int .i64 i.b) w := partR_int w Tryd.underlying3 rfl
  have p3 : (part 3 (insV i) 3).run Tryd.prog w = .ok (.int .i64 i.c) w := partR_int w Tryd.underlying3 rfl
  have p4 : (part 25 (insV i) 4).run Tryd.prog w = .ok (.int .u32 i.k) w := partR_int w Tryd.underlying25 rfl
  have q : ∀ z : Int, (Op.equalIn 9999 3 (.int .i64 z) (.int .i64 z)).run Tryd.prog w = .ok (z == z) w := fun z => run_equalIn_int w 9998 3 .i64 .i64 z z Tryd.underlying3
  have q4 : ∀ z : Int, (Op.equalIn 9999 25 (.int .u32 z) (.int .u32 z)).run Tryd.prog w = .ok (z == z) w := fun z => run_equalIn_int w 9998 25 .u32 .u32 z z Tryd.underlying25
  simp [Op.eqFields, Sem.run_bind, Sem.run_ite, p0, p1, p2, p3, p4, q, q4]
theorem insR_neq (i : Ins) (w : World) : (binOp .neq 41 (.agg (insV i)) (.agg (insV i))).run Tryd.prog w = .ok (.bool false) w := by
  have h := insR_eql i w
  rw [run_eql_struct] at h
  rw [run_neq_struct]
  revert h
  generalize (Op.equalIn 10000 41 (.agg (insV i)) (.agg (insV i))).run Tryd.prog w = r
  cases r <;> simp
set_option maxHeartbeats 2000000 in
theorem same15_any (l : List Ins) (hl : l.length ≤ 1000) (A A2 : Option Addr) (c c2 : Nat) (w : World) (h1 : SlE w A l.length 5 (fun i => (l.getD i default).cells)) (h2 : SlE w A2 l.length 5 (fun i => (l.getD i default).cells)) :
    Calls Tryd.prog 42 #[.slice A l.length c, .slice A2 l.length c2] w fun e w' => e = .returned (.bool true) ∧ Below w.heap.size w w' := by
  obtain ⟨n, hn⟩ : ∃ n, l.length = n := ⟨_, rfl⟩
  rw [hn] at h1 h2 hl ⊢
  have HS := Lib.hid (And.intro h1 h2)
  have hni : (n : Int) ≤ 1000 := by omega
  have hnn : ((n : Int) != (n : Int)) = false := by simp
  clear h1 h2 hn
  go_enter Tryd.func42, Tryd.ntmps42
  go_wp2_with fail
  go_loopw [5] (fun v5 wr => ∃ k : Nat, k ≤ n ∧ v5 = .int .i64 k ∧ Below w.heap.size w wr) (fun v5 _ => n - (intOf v5).toNat)
  case atStart => exact ⟨0, Nat.zero_le _, rfl, Below.refl _ _⟩
  case round =>
    obtain ⟨k, hk, rfl, hB⟩ := hrel
    have hk0 : (0 : Int) ≤ (k : Int) := by omega
    by_cases hkn : k < n
    · have hki : (k : Int) < (n : Int) := by omega
      obtain ⟨g, o, rfl, hg, hc⟩ := HS.out.1 (by omega)
      obtain ⟨g2, o2, rfl, hg2, hc2⟩ := HS.out.2 (by omega)
      obtain ⟨x, hx⟩ : ∃ x, l.getD k default = x := ⟨_, rfl⟩
      have r1 : w.rangeAt g (o + k * 5) x.cells := fun j u hu => by rw [← hx] at hu; exact hc k hkn j u hu
      have r2 : w.rangeAt g2 (o2 + k * 5) x.cells := fun j u hu => by rw [← hx] at hu; exact hc2 k hkn j u hu
      have hB1 := hB.trans ((show Below wr.heap.size wr wr.drew from ⟨rfl, rfl, rfl, Nat.le_refl _, fun _ _ => rfl⟩).mono hB.size)
      have HR := Lib.hid (And.intro r1 (And.intro r2 (And.intro hg (And.intro hg2 hB1))))
      have hq := insR_neq x
      clear hc hc2 hx r1 r2 hg hg2 hB hB1
      go_wp2_with fail
      refine startG (fun W' => Below wr.drew.heap.size wr.drew W') 8 (by kernel_rfl) ?_
      generalize wr.drew = W0 at HR ⊢
      have hS0 : Below W0.heap.size W0 W0 := Below.refl _ _
      refine takeG0 (i := 0) (v := .slice (some ⟨g, o, none⟩) n c) rfl (by kernel_rfl) (by kernel_rfl) (by kernel_rfl) (by kernel_rfl) (fun _ _ _ h => h) (Or.inl ⟨by rfl, fun W hW => by go_simp⟩) hS0 ?_
      simp only [Act.put, List.getElem_toArray, List.getElem_cons_zero, List.getElem_cons_succ, List.setIfInBounds_toArray, List.set_cons_zero, List.set_cons_succ]
      refine takeG0 (i := 1) (v := .int .i64 (k : Int)) rfl (by kernel_rfl) (by kernel_rfl) (by kernel_rfl) (by kernel_rfl) (fun _ _ _ h => h) (Or.inl ⟨by rfl, fun W hW => by go_simp⟩) hS0 ?_
      simp only [Act.put, List.getElem_toArray, List.getElem_cons_zero, List.getElem_cons_succ, List.setIfInBounds_toArray, List.set_cons_zero, List.set_cons_succ]
      refine takeG0 (i := 2) (v := .pointer (some ⟨g, o + k * 5, none⟩)) rfl (by kernel_rfl) (by kernel_rfl) (by kernel_rfl) (by kernel_rfl) (fun _ _ _ h => h) (Or.inl ⟨by rfl, fun W hW => by go_simp⟩) hS0 ?_
      simp only [Act.put, List.getElem_toArray, List.getElem_cons_zero, List.getElem_cons_succ, List.setIfInBounds_toArray, List.set_cons_zero, List.set_cons_succ]
      refine takeG (i := 3) (v := .agg x.cells.toArray) rfl (by kernel_rfl) (by kernel_rfl) (by kernel_rfl) (by kernel_rfl) (fun _ _ _ h => h) (yieldsIf_load_mid (by rfl) 41 (.tmp 19) rfl g (o + k * 5) rfl x.cells _ (fun W hW => fun j u hu => keepAt hW (Nat.lt_of_lt_of_le HR.out.2.2.1 HR.out.2.2.2.2.size) (keepAt HR.out.2.2.2.2 HR.out.2.2.1 (HR.out.1 j u hu))) Tryd.underlying41 rfl insR_info) hS0 ?_
      simp only [Act.put, List.getElem_toArray, List.getElem_cons_zero, List.getElem_cons_succ, List.setIfInBounds_toArray, List.set_cons_zero, List.set_cons_succ]
      refine takeG0 (i := 4) (v := .slice (some ⟨g2, o2, none⟩) n c2) rfl (by kernel_rfl) (by kernel_rfl) (by kernel_rfl) (by kernel_rfl) (fun _ _ _ h => h) (Or.inl ⟨by rfl, fun W hW => by go_simp⟩) hS0 ?_
      simp only [Act.put, List.getElem_toArray, List.getElem_cons_zero, List.getElem_cons_succ, List.setIfInBounds_toArray, List.set_cons_zero, List.set_cons_succ]
      refine takeG0 (i := 5) (v := .int .i64 (k : Int)) rfl (by kernel_rfl) (by kernel_rfl) (by kernel_rfl) (by kernel_rfl) (fun _ _ _ h => h) (Or.inl ⟨by rfl, fun W hW => by go_simp⟩) hS0 ?_
      simp only [Act.put, List.getElem_toArray, List.getElem_cons_zero, List.getElem_cons_succ, List.setIfInBounds_toArray, List.set_cons_zero, List.set_cons_succ]
      refine takeG0 (i := 6) (v := .pointer (some ⟨g2, o2 + k * 5, none⟩)) rfl (by kernel_rfl) (by kernel_rfl) (by kernel_rfl) (by kernel_rfl) (fun _ _ _ h => h) (Or.inl ⟨by rfl, fun W hW => by go_simp⟩) hS0 ?_
      simp only [Act.put, List.getElem_toArray, List.getElem_cons_zero, List.getElem_cons_succ, List.setIfInBounds_toArray, List.set_cons_zero, List.set_cons_succ]
      refine takeG (i := 7) (v := .agg x.cells.toArray) rfl (by kernel_rfl) (by kernel_rfl) (by kernel_rfl) (by kernel_rfl) (fun _ _ _ h => h) (yieldsIf_load_mid (by rfl) 41 (.tmp 23) rfl g2 (o2 + k * 5) rfl x.cells _ (fun W hW => fun j u hu => keepAt hW (Nat.lt_of_lt_of_le HR.out.2.2.2.1 HR.out.2.2.2.2.size) (keepAt HR.out.2.2.2.2 HR.out.2.2.2.1 (HR.out.2.1 j u hu))) Tryd.underlying41 rfl insR_info) hS0 ?_
      simp only [Act.put, List.getElem_toArray, List.getElem_cons_zero, List.getElem_cons_succ, List.setIfInBounds_toArray, List.set_cons_zero, List.set_cons_succ]
      refine lastG (by kernel_rfl) rfl (by kernel_rfl) (fun K hK => ?_)
      replace hq : ∀ w, (binOp .neq 41 (.agg x.cells.toArray) (.agg x.cells.toArray)).run Tryd.prog w = .ok (.bool false) w := hq
      go_simp
      refine hK.out _ _ ?_
      clear hK K
      go_wp2
      go_roundw
      case rel => exact ⟨k + 1, by omega, by go_num, HR.out.2.2.2.2⟩
      case measure => simp [intOf]; omega
    · obtain rfl : k = n := by omega
      have hki : ¬ (k : Int) < (k : Int) := by omega
      have HF := Lib.hid hB
      clear hB
      go_wp2
      go_ret
      exact ⟨rfl, HF.out⟩
theorem truth15 (w : World) : Calls Tryd.prog 41 #[.bool true] w fun e w' => e = .returned (.int .i64 1) ∧ Below w.heap.size w w' := by
  have hB := Below.refl w.heap.size w
  go_enter Tryd.func41, Tryd.ntmps41
  go_wp2
  go_ret
  exact ⟨rfl, hB⟩
theorem same15 (l : List Ins) (hl : l.length ≤ 1000) (A A2 : Option Addr) (c c2 : Nat) (w : World) (h1 : SlE w A l.length 5 (fun i => (l.getD i default).cells)) (h2 : SlE w A2 l.length 5 (fun i => (l.getD i default).cells)) :
    Calls Tryd.prog 12 #[.slice A l.length c, .slice A2 l.length c2] w fun e w' => e = .returned (.int .i64 1) ∧ Below w.heap.size w w' := by
  have cS := same15_any l hl A A2 c c2 w h1 h2
  go_enter Tryd.func12, Tryd.ntmps12
  go_wp2_with fail
  refine cS.mono ?_
  rintro e W1 ⟨rfl, hB1⟩
  go_wp2_with fail
  refine (truth15 W1).mono ?_
  rintro e W2 ⟨rfl, hB2⟩
  have HF := Lib.hid (step_below hB1 hB2)
  clear cS hB1 hB2
  go_wp2
  go_ret
  exact ⟨rfl, HF.out⟩
end Go.Proofs.YtmhfpjnkjlhbpaaDoor
