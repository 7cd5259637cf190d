/- asm.Builder: At (printed by gen/bld.py). -/
import Derived.Test.YtmhfpjnkjlhbpaaGreatDoorBldD
import Derived.Test.YtmhfpjnkjlhbpaaGreatDoorBldN
namespace Go.Proofs.YtmhfpjnkjlhbpaaGreatDoor
open Go.ChangeShapes Go.WideShapes Go.ChangeAt Go.RowKit Go.Deep
set_option linter.unusedVariables false
set_option maxRecDepth 100000
set_option linter.unusedSimpArgs false

/-- A place's name, of letters alone. -/
def Nm (s : List UInt8) : Bool := decide (1 ≤ s.length) && decide (s.length ≤ 20) && s.all fun x => decide (97 ≤ x.toNat) && decide (x.toNat ≤ 122)
theorem bname_any (s : List UInt8) (hs : Nm s = true) (w : World) : Calls Tryz.prog 138 #[str s] w fun e w' => e = .returned (.bool true) ∧ Below w.heap.size w w' := by
  simp only [Nm, Bool.and_eq_true, decide_eq_true_eq, List.all_eq_true] at hs
  obtain ⟨⟨h1, h2⟩, h3⟩ := hs
  refine (bname_at ⟨s.toArray⟩ w ?_ (by show s.toArray.size ≤ 20; simpa using h2) ?_).mono ?_
  · rw [Lib.toList_data]
    intro e
    have e : s = [] := by simpa using e
    rw [e] at h1
    exact absurd h1 (by decide)
  · intro i hi
    have hi' : i < s.length := by have : i < s.toArray.size := hi; simpa using this
    have : (⟨s.toArray⟩ : ByteArray)[i]'hi = s[i]'hi' := by show s.toArray[i]'(by simpa using hi') = _; simp
    rw [this]
    exact h3 _ (List.getElem_mem _)
  · rintro e w' ⟨he, rfl⟩
    exact ⟨he, (Below.refl w.heap.size w).alloc (Nat.le_refl _) _⟩

theorem BParts.looks {N0 : Nat} {W : World} {bb mb : Nat} {b : BB} {vc vl : Value} (h : BParts N0 W bb b vc vl (some mb)) : ∃ DW : DataW Unit, W.ownsMap Tryz.prog 9 (plainElem Tryz.prog 3) mb b.places.length DW ∧ (∀ s, Maps.has DW (.string s) = (b.places.lookup s).isSome) ∧ (∀ s v, b.places.lookup s = some v → ∀ z, DW.atKey (.string s) z = .lit (.int .i64 (v : Int))) := by
  obtain ⟨_, DW, h1, h2, h3⟩ := h.places
  exact ⟨DW, h1, h2, h3⟩
theorem zero_intB (w : World) : (zeroValue 3).run Tryz.prog w = .ok (.int .i64 0) w := by kernel_rfl
theorem nilB (w : World) (r : Option Nat) : (binOp .eql 127 (.map r) (.map none)).run Tryz.prog w = .ok (.bool r.isNone) w := run_eql_map_nil w _ _ _ r Tryz.underlying127


set_option maxHeartbeats 4000000 in
theorem bat_any (N0 bb : Nat) (b : BB) (s : List UInt8) (hs : Nm s = true) (hf : b.places.lookup s = none) (hl : b.places.length ≤ 1000) (hn : b.code.length ≤ 1000) (W : World) (h : BI N0 W bb b) :
    Calls Tryz.prog 99 #[.pointer (some ⟨bb, 0, none⟩), str s] W fun e W' => (∃ u, e = .returned u) ∧ BI N0 W' bb { b with places := (s, b.code.length) :: b.places } ∧ BelF N0 W W' := by
  obtain ⟨vc, vl, mo, hP⟩ := h
  have hkey : keyOf Tryz.prog 9 (str s) = some (.string s) := key_str (by
    simp only [Nm, Bool.and_eq_true, decide_eq_true_eq] at hs
    unfold maxLen; omega)
  have HNm := Lib.hid hs
  have HF := Lib.hid (And.intro hf (And.intro hl hn))
  clear hs hf hl hn
  have hun := Lib.hid (Tryz.underlying127)
  rcases mo with _ | mb
  case' none =>
    have HP1 := Lib.hid hP.addMap
    have q1 := (hP.blk.cell 1).trans rfl
    have qa := ((hP.blk.alloc (.map #[] 0)).cell 1).trans rfl
    have fa := (hP.blk.alloc (.map #[] 0)).frozen 1
    have qn := nilB W none
    have qm := run_makeMap (P := Tryz.prog) 127 W
    clear hP
    go_enter Tryz.func99, Tryz.ntmps99
    go_wp2_with fail
    generalize (W.alloc (.map #[] 0)).setCell ⟨bb, 1, none⟩ (.map (some W.heap.size)) = W1 at HP1 ⊢
    generalize W.heap.size = mb at HP1 ⊢
    clear q1 qa fa qn qm
  case' some =>
    obtain ⟨W1, e1, h1P⟩ : ∃ W1, W1 = W ∧ (BParts N0 W1 bb b vc vl (some mb) ∧ BelF N0 W W1) := ⟨W, rfl, And.intro hP (BelF.refl N0 W)⟩
    have HP1 := Lib.hid h1P
    clear h1P
    have q1 := (hP.blk.cell 1).trans rfl
    have qn := nilB W (some mb)
    clear hP
    go_enter Tryz.func99, Tryz.ntmps99
    go_wp2_with fail
    rw [← e1]
    clear q1 qn e1
  all_goals
    obtain ⟨DW, hm1, hm2, hm3⟩ := HP1.out.1.looks
    obtain ⟨v, ps, hlk, hv⟩ := hm1.look_ok key_law hun.out (zero_intB W1) (plainElem_int Tryz.underlying3 (show (Lit.int .i64 0).wf = true from by decide)) hkey
    obtain ⟨c, rfl, _, _⟩ := plainElem_int_inv Tryz.underlying3 hv
    rw [hm2 s, show (b.places.lookup s).isSome = false from by rw [HF.out.1]; rfl] at hlk
    have cN := bname_any s HNm.out W1
    clear hm1 hm2 hm3 hv
    rw [hlk]
    go_wp2_with fail
    with_reducible refine cN.mono ?_
    rintro e W2 ⟨rfl, hB2⟩
    clear cN hlk
    have HP2 := Lib.hid (And.intro (HP1.out.1.below hB2) (HP1.out.2.trans (BelF.of hB2 HP1.out.1.lt)))
    go_wp2
    refine startG (fun W' => W' = W2.drew) 10 (by kernel_rfl) ?_
    have hq := HP2.out.1.below (below_drewB W2)
    obtain ⟨DX, hx1, hx2, hx3⟩ := hq.looks
    obtain ⟨W4, hup, hox, hgx⟩ := hx1.update key_law hun.out (show b.places.length < maxLen from by have := HF.out.2.1; unfold maxLen; omega) hkey (plainElem_int (H := Unit) Tryz.underlying3 (a := (b.code.length : Int)) (by have := HF.out.2.2; exact Go.WalkArith.wf_i64 (by omega)))
    have HQ := Lib.hid (hq.addPlace hgx (PlI.put (hq.mapNe rfl).2.2.2.2 hx1.isMap hx2 hx3 s b.code.length hox))
    have HD := Lib.hid (HP2.out.2.trans (BelF.of (below_drewB W2) HP2.out.1.lt))
    obtain ⟨AC, capc, rfl, _, _⟩ := own_cap hq.code
    have HB := Lib.hid hq.blk
    clear hx1 hx2 hx3 hq hox hgx
    generalize W2.drew = W3 at HB HQ HD hup ⊢
    generalize b.code.length = m at HB hup ⊢

    refine takeG0 (i := 0) (v := .pointer (some ⟨bb, 0, none⟩)) rfl (by kernel_rfl) (by kernel_rfl) (by kernel_rfl) (by kernel_rfl) (fun _ _ _ h => h) (Or.inl ⟨by rfl, fun W hW => by go_simp⟩) rfl ?_
    simp only [Act.put, List.getElem_toArray, List.getElem_cons_zero, List.getElem_cons_succ, List.setIfInBounds_toArray, List.set_cons_zero, List.set_cons_succ]
    refine takeG0 (i := 1) (v := .pointer (some ⟨bb, 0, none⟩)) rfl (by kernel_rfl) (by kernel_rfl) (by kernel_rfl) (by kernel_rfl) (fun _ _ _ h => h) (Or.inl ⟨by rfl, fun W hW => by go_simp⟩) rfl ?_
    simp only [Act.put, List.getElem_toArray, List.getElem_cons_zero, List.getElem_cons_succ, List.setIfInBounds_toArray, List.set_cons_zero, List.set_cons_succ]
    refine takeG0 (i := 2) (v := .pointer (some ⟨bb, 1, none⟩)) rfl (by kernel_rfl) (by kernel_rfl) (by kernel_rfl) (by kernel_rfl) (fun _ _ _ h => h) (Or.inl ⟨by rfl, fun W hW => by go_simp⟩) rfl ?_
    simp only [Act.put, List.getElem_toArray, List.getElem_cons_zero, List.getElem_cons_succ, List.setIfInBounds_toArray, List.set_cons_zero, List.set_cons_succ]
    refine takeG (i := 3) (v := .map (some mb)) rfl (by kernel_rfl) (by kernel_rfl) (by kernel_rfl) (by kernel_rfl) (fun _ _ _ h => h) (Or.inl ⟨by rfl, fun W hW => by subst hW; have q0 := (HB.out.cell 1).trans rfl; go_simp⟩) rfl ?_
    simp only [Act.put, List.getElem_toArray, List.getElem_cons_zero, List.getElem_cons_succ, List.setIfInBounds_toArray, List.set_cons_zero, List.set_cons_succ]
    refine takeG0 (i := 4) (v := str s) rfl (by kernel_rfl) (by kernel_rfl) (by kernel_rfl) (by kernel_rfl) (fun _ _ _ h => h) (Or.inl ⟨by rfl, fun W hW => by go_simp⟩) rfl ?_
    simp only [Act.put, List.getElem_toArray, List.getElem_cons_zero, List.getElem_cons_succ, List.setIfInBounds_toArray, List.set_cons_zero, List.set_cons_succ]
    refine takeG0 (i := 5) (v := .pointer (some ⟨bb, 0, none⟩)) rfl (by kernel_rfl) (by kernel_rfl) (by kernel_rfl) (by kernel_rfl) (fun _ _ _ h => h) (Or.inl ⟨by rfl, fun W hW => by go_simp⟩) rfl ?_
    simp only [Act.put, List.getElem_toArray, List.getElem_cons_zero, List.getElem_cons_succ, List.setIfInBounds_toArray, List.set_cons_zero, List.set_cons_succ]
    refine takeG0 (i := 6) (v := .pointer (some ⟨bb, 0, none⟩)) rfl (by kernel_rfl) (by kernel_rfl) (by kernel_rfl) (by kernel_rfl) (fun _ _ _ h => h) (Or.inl ⟨by rfl, fun W hW => by go_simp⟩) rfl ?_
    simp only [Act.put, List.getElem_toArray, List.getElem_cons_zero, List.getElem_cons_succ, List.setIfInBounds_toArray, List.set_cons_zero, List.set_cons_succ]
    refine takeG0 (i := 7) (v := .pointer (some ⟨bb, 0, none⟩)) rfl (by kernel_rfl) (by kernel_rfl) (by kernel_rfl) (by kernel_rfl) (fun _ _ _ h => h) (Or.inl ⟨by rfl, fun W hW => by go_simp⟩) rfl ?_
    simp only [Act.put, List.getElem_toArray, List.getElem_cons_zero, List.getElem_cons_succ, List.setIfInBounds_toArray, List.set_cons_zero, List.set_cons_succ]
    refine takeG (i := 8) (v := .slice AC m capc) rfl (by kernel_rfl) (by kernel_rfl) (by kernel_rfl) (by kernel_rfl) (fun _ _ _ h => h) (Or.inl ⟨by rfl, fun W hW => by subst hW; have q0 := (HB.out.cell 0).trans rfl; go_simp⟩) rfl ?_
    simp only [Act.put, List.getElem_toArray, List.getElem_cons_zero, List.getElem_cons_succ, List.setIfInBounds_toArray, List.set_cons_zero, List.set_cons_succ]
    refine takeG0 (i := 9) (v := .int .i64 (m : Int)) rfl (by kernel_rfl) (by kernel_rfl) (by kernel_rfl) (by kernel_rfl) (fun _ _ _ h => h) (Or.inl ⟨by rfl, fun W hW => by go_simp⟩) rfl ?_
    simp only [Act.put, List.getElem_toArray, List.getElem_cons_zero, List.getElem_cons_succ, List.setIfInBounds_toArray, List.set_cons_zero, List.set_cons_succ]
    refine lastG (by kernel_rfl) rfl (by kernel_rfl) (fun K hK => ?_)
    go_simp
    refine hK.out _ _ ?_
    clear hK K
    go_wp2
    go_end0
    exact ⟨⟨_, rfl⟩, HQ.out.1, HD.out.trans HQ.out.2⟩
end Go.Proofs.YtmhfpjnkjlhbpaaGreatDoor
