/- core.Address. -/
import Derived.Test.YtjmnogpnjombgaaDoorCoreW1
import Derived.Test.YtjmnogpnjombgaaDoorAluAll
namespace Go.Proofs.YtjmnogpnjombgaaDoor
open Go.ChangeShapes Go.WideShapes Go.ChangeAt Go.RowKit Go.Deep
set_option linter.unusedVariables false
set_option maxRecDepth 100000
set_option linter.unusedSimpArgs false

/-- The address of an instruction that asks memory. -/
def addrF (t : Th) (i : Ins) : Int := if 0 ≤ i.b ∧ i.b < 8 then aluF 3 (t.regs i.b.toNat) i.k else i.k
theorem addrF_in (t : Th) (i : Ins) (b : Nat) (h : i.b = (b : Int)) (hb : b < 8) : addrF t i = aluF 3 (t.regs b) i.k := by
  unfold addrF
  rw [if_pos (by omega), h, Int.toNat_natCast]
theorem addrF_out (t : Th) (i : Ins) (h : i.b < 0 ∨ 8 ≤ i.b) : addrF t i = i.k := by
  unfold addrF
  rw [if_neg (by omega)]

set_option maxHeartbeats 4000000 in
theorem address_any (t : Th) (i : Ins) (hk0 : 0 ≤ i.k) (hk1 : i.k ≤ 4294967295) (W : World) :
    Calls Tryd.prog 51 #[t.val, .agg #[.int .i64 i.op, .int .i64 i.a, .int .i64 i.b, .int .i64 i.c, .int .u32 i.k]] W fun e W' => e = .returned (.int .u32 (addrF t i)) ∧ Below W.heap.size W W' := by
  have hB1 := (Below.refl W.heap.size W).alloc (Nat.le_refl _) (.cells #[.int .i64 t.pc, .int .u32 (t.regs 0), .int .u32 (t.regs 1), .int .u32 (t.regs 2), .int .u32 (t.regs 3), .int .u32 (t.regs 4), .int .u32 (t.regs 5), .int .u32 (t.regs 6), .int .u32 (t.regs 7), .int .i64 t.st] 25)
  obtain ⟨iop, ia, ib, ic, ik⟩ := i
  dsimp only at hk0 hk1 ⊢
  have hB2 := hB1.alloc hB1.size (.cells #[.int .i64 iop, .int .i64 ia, .int .i64 ib, .int .i64 ic, .int .u32 ik] 54)
  unfold Th.val
  by_cases h : 0 ≤ ib ∧ ib < 8
  · obtain ⟨b, rfl⟩ : ∃ b : Nat, ib = (b : Int) := ⟨ib.toNat, by omega⟩
    have hb8 : b < 8 := by omega
    rw [addrF_in t ⟨iop, ia, (b : Int), ic, ik⟩ b rfl hb8]
    have xt := (Blk.new W 25 #[.int .i64 t.pc, .int .u32 (t.regs 0), .int .u32 (t.regs 1), .int .u32 (t.regs 2), .int .u32 (t.regs 3), .int .u32 (t.regs 4), .int .u32 (t.regs 5), .int .u32 (t.regs 6), .int .u32 (t.regs 7), .int .i64 t.st]).alloc (.cells #[.int .i64 iop, .int .i64 ia, .int .i64 (b : Int), .int .i64 ic, .int .u32 ik] 54)
    have xi := Blk.new2 W (.cells #[.int .i64 t.pc, .int .u32 (t.regs 0), .int .u32 (t.regs 1), .int .u32 (t.regs 2), .int .u32 (t.regs 3), .int .u32 (t.regs 4), .int .u32 (t.regs 5), .int .u32 (t.regs 6), .int .u32 (t.regs 7), .int .i64 t.st] 25) 54 #[.int .i64 iop, .int .i64 ia, .int .i64 (b : Int), .int .i64 ic, .int .u32 ik]
    obtain ⟨rv, hrv⟩ : ∃ rv, t.regs b = rv := ⟨_, rfl⟩
    have tr : ((W.alloc (.cells #[.int .i64 t.pc, .int .u32 (t.regs 0), .int .u32 (t.regs 1), .int .u32 (t.regs 2), .int .u32 (t.regs 3), .int .u32 (t.regs 4), .int .u32 (t.regs 5), .int .u32 (t.regs 6), .int .u32 (t.regs 7), .int .i64 t.st] 25)).alloc (.cells #[.int .i64 iop, .int .i64 ia, .int .i64 (b : Int), .int .i64 ic, .int .u32 ik] 54)).cell? ⟨W.heap.size, 1 + b, none⟩ = some (.int .u32 rv) := by
      rw [xt.cell, ← hrv]
      rcases (by omega : b = 0 ∨ b = 1 ∨ b = 2 ∨ b = 3 ∨ b = 4 ∨ b = 5 ∨ b = 6 ∨ b = 7) with rfl | rfl | rfl | rfl | rfl | rfl | rfl | rfl <;> rfl
    have i2 := (xi.cell 2).trans rfl
    have i4 := (xi.cell 4).trans rfl
    have n1 : ¬ (b : Int) < 0 := by omega
    have n2 : ¬ (8 : Int) ≤ (b : Int) := by omega
    have n3 : (0 : Int) ≤ (b : Int) := by omega
    have n4 : (b : Int) < 8 := by omega
    dsimp only
    rw [hrv]
    have HB := hB2.drew
    have hil := xi.lt
    have htl := xt.lt
    simp only [List.getElem?_toArray, List.getElem?_cons_zero, List.getElem?_cons_succ] at i2 i4
    clear hB1 hB2 xt xi h hrv
    have HQ := Lib.hid (And.intro tr (And.intro i2 (And.intro i4 (And.intro hil (And.intro htl HB)))))
    clear tr i2 i4 hil htl HB
    go_enter Tryd.func51, Tryd.ntmps51
    go_wp2
    refine startG (fun W' => Below (((W.alloc (.cells #[.int .i64 t.pc, .int .u32 (t.regs 0), .int .u32 (t.regs 1), .int .u32 (t.regs 2), .int .u32 (t.regs 3), .int .u32 (t.regs 4), .int .u32 (t.regs 5), .int .u32 (t.regs 6), .int .u32 (t.regs 7), .int .i64 t.st] 25)).alloc (.cells #[.int .i64 iop, .int .i64 ia, .int .i64 (b : Int), .int .i64 ic, .int .u32 ik] 54)).drew).heap.size (((W.alloc (.cells #[.int .i64 t.pc, .int .u32 (t.regs 0), .int .u32 (t.regs 1), .int .u32 (t.regs 2), .int .u32 (t.regs 3), .int .u32 (t.regs 4), .int .u32 (t.regs 5), .int .u32 (t.regs 6), .int .u32 (t.regs 7), .int .i64 t.st] 25)).alloc (.cells #[.int .i64 iop, .int .i64 ia, .int .i64 (b : Int), .int .i64 ic, .int .u32 ik] 54)).drew) W') 12 (by kernel_rfl) ?_
    obtain ⟨tr, i2, i4, hil, htl, HB⟩ := HQ.out
    have tr' : (((W.alloc (.cells #[.int .i64 t.pc, .int .u32 (t.regs 0), .int .u32 (t.regs 1), .int .u32 (t.regs 2), .int .u32 (t.regs 3), .int .u32 (t.regs 4), .int .u32 (t.regs 5), .int .u32 (t.regs 6), .int .u32 (t.regs 7), .int .i64 t.st] 25)).alloc (.cells #[.int .i64 iop, .int .i64 ia, .int .i64 (b : Int), .int .i64 ic, .int .u32 ik] 54)).drew).cell? ⟨W.heap.size, 1 + b, none⟩ = some (.int .u32 rv) := tr
    have i2' : (((W.alloc (.cells #[.int .i64 t.pc, .int .u32 (t.regs 0), .int .u32 (t.regs 1), .int .u32 (t.regs 2), .int .u32 (t.regs 3), .int .u32 (t.regs 4), .int .u32 (t.regs 5), .int .u32 (t.regs 6), .int .u32 (t.regs 7), .int .i64 t.st] 25)).alloc (.cells #[.int .i64 iop, .int .i64 ia, .int .i64 (b : Int), .int .i64 ic, .int .u32 ik] 54)).drew).cell? ⟨W.heap.size + 1, 2, none⟩ = some (.int .i64 (b : Int)) := i2
    have i4' : (((W.alloc (.cells #[.int .i64 t.pc, .int .u32 (t.regs 0), .int .u32 (t.regs 1), .int .u32 (t.regs 2), .int .u32 (t.regs 3), .int .u32 (t.regs 4), .int .u32 (t.regs 5), .int .u32 (t.regs 6), .int .u32 (t.regs 7), .int .i64 t.st] 25)).alloc (.cells #[.int .i64 iop, .int .i64 ia, .int .i64 (b : Int), .int .i64 ic, .int .u32 ik] 54)).drew).cell? ⟨W.heap.size + 1, 4, none⟩ = some (.int .u32 ik) := i4
    have hil' : W.heap.size + 1 < (((W.alloc (.cells #[.int .i64 t.pc, .int .u32 (t.regs 0), .int .u32 (t.regs 1), .int .u32 (t.regs 2), .int .u32 (t.regs 3), .int .u32 (t.regs 4), .int .u32 (t.regs 5), .int .u32 (t.regs 6), .int .u32 (t.regs 7), .int .i64 t.st] 25)).alloc (.cells #[.int .i64 iop, .int .i64 ia, .int .i64 (b : Int), .int .i64 ic, .int .u32 ik] 54)).drew).heap.size := hil
    have htl' : W.heap.size < (((W.alloc (.cells #[.int .i64 t.pc, .int .u32 (t.regs 0), .int .u32 (t.regs 1), .int .u32 (t.regs 2), .int .u32 (t.regs 3), .int .u32 (t.regs 4), .int .u32 (t.regs 5), .int .u32 (t.regs 6), .int .u32 (t.regs 7), .int .i64 t.st] 25)).alloc (.cells #[.int .i64 iop, .int .i64 ia, .int .i64 (b : Int), .int .i64 ic, .int .u32 ik] 54)).drew).heap.size := htl
    clear tr i2 i4 hil htl HQ
    generalize ((W.alloc (.cells #[.int .i64 t.pc, .int .u32 (t.regs 0), .int .u32 (t.regs 1), .int .u32 (t.regs 2), .int .u32 (t.regs 3), .int .u32 (t.regs 4), .int .u32 (t.regs 5), .int .u32 (t.regs 6), .int .u32 (t.regs 7), .int .i64 t.st] 25)).alloc (.cells #[.int .i64 iop, .int .i64 ia, .int .i64 (b : Int), .int .i64 ic, .int .u32 ik] 54)).drew = W0 at tr' i2' i4' hil' htl' HB ⊢
    have HBH := Lib.hid HB
    clear HB
    obtain ⟨tb, htb⟩ : ∃ tb, W.heap.size = tb := ⟨_, rfl⟩
    obtain ⟨bi, hbi⟩ : ∃ bi, W.heap.size + 1 = bi := ⟨_, rfl⟩
    rw [hbi] at i2' i4' hil' ⊢
    rw [htb] at tr' htl' ⊢
    have HTB := Lib.hid htb
    clear htb hbi
    have hH := Below.refl W0.heap.size W0
    refine takeG (i := 0) (v := .pointer (some ⟨bi, 2, none⟩)) rfl (by kernel_rfl) (by kernel_rfl) (by kernel_rfl) (by kernel_rfl) (fun _ _ _ h => h) (Or.inl ⟨by rfl, fun W hW => by go_simp⟩) hH ?_
    simp only [Act.put, List.getElem_toArray, List.getElem_cons_zero, List.getElem_cons_succ, List.setIfInBounds_toArray, List.set_cons_zero, List.set_cons_succ]
    refine takeG (i := 1) (v := .int .i64 (b : Int)) rfl (by kernel_rfl) (by kernel_rfl) (by kernel_rfl) (by kernel_rfl) (fun _ _ _ h => h) (Or.inl ⟨by rfl, fun W hW => by have q0 := keepAt hW hil' i2'; go_simp⟩) hH ?_
    simp only [Act.put, List.getElem_toArray, List.getElem_cons_zero, List.getElem_cons_succ, List.setIfInBounds_toArray, List.set_cons_zero, List.set_cons_succ]
    refine takeG (i := 2) (v := .pointer (some ⟨tb, 1, none⟩)) rfl (by kernel_rfl) (by kernel_rfl) (by kernel_rfl) (by kernel_rfl) (fun _ _ _ h => h) (Or.inl ⟨by rfl, fun W hW => by go_simp⟩) hH ?_
    simp only [Act.put, List.getElem_toArray, List.getElem_cons_zero, List.getElem_cons_succ, List.setIfInBounds_toArray, List.set_cons_zero, List.set_cons_succ]
    refine takeG (i := 3) (v := .pointer (some ⟨tb, 1 + b, none⟩)) rfl (by kernel_rfl) (by kernel_rfl) (by kernel_rfl) (by kernel_rfl) (fun _ _ _ h => h) (Or.inl ⟨by rfl, fun W hW => by go_simp⟩) hH ?_
    simp only [Act.put, List.getElem_toArray, List.getElem_cons_zero, List.getElem_cons_succ, List.setIfInBounds_toArray, List.set_cons_zero, List.set_cons_succ]
    refine takeG (i := 4) (v := .int .u32 rv) rfl (by kernel_rfl) (by kernel_rfl) (by kernel_rfl) (by kernel_rfl) (fun _ _ _ h => h) (Or.inl ⟨by rfl, fun W hW => by have q0 := keepAt hW htl' tr'; go_simp⟩) hH ?_
    simp only [Act.put, List.getElem_toArray, List.getElem_cons_zero, List.getElem_cons_succ, List.setIfInBounds_toArray, List.set_cons_zero, List.set_cons_succ]
    refine takeG (i := 5) (v := .pointer (some ⟨bi, 4, none⟩)) rfl (by kernel_rfl) (by kernel_rfl) (by kernel_rfl) (by kernel_rfl) (fun _ _ _ h => h) (Or.inl ⟨by rfl, fun W hW => by go_simp⟩) hH ?_
    simp only [Act.put, List.getElem_toArray, List.getElem_cons_zero, List.getElem_cons_succ, List.setIfInBounds_toArray, List.set_cons_zero, List.set_cons_succ]
    refine takeG (i := 6) (v := .int .u32 ik) rfl (by kernel_rfl) (by kernel_rfl) (by kernel_rfl) (by kernel_rfl) (fun _ _ _ h => h) (Or.inl ⟨by rfl, fun W hW => by have q0 := keepAt hW hil' i4'; go_simp⟩) hH ?_
    simp only [Act.put, List.getElem_toArray, List.getElem_cons_zero, List.getElem_cons_succ, List.setIfInBounds_toArray, List.set_cons_zero, List.set_cons_succ]
    refine onlyG (i := 7) (by kernel_rfl) rfl (fun K hK => ?_)
    go_simp
    refine (do_any 3 (by omega) (by omega) rv ik hk0 hk1 _).mono ?_
    rintro e W2 ⟨rfl, hb2⟩
    go_wp2_with fail
    refine hK.out _ _ hb2 (fun _ => ?_)
    clear hK K
    try simp only [Act.put, List.getElem_toArray, List.getElem_cons_zero, List.getElem_cons_succ, List.setIfInBounds_toArray, List.set_cons_zero, List.set_cons_succ]
    refine takeG (i := 8) (v := .tuple #[.int .u32 (aluF 3 rv ik), .bool true]) rfl (by kernel_rfl) (by kernel_rfl) (by kernel_rfl) (by kernel_rfl) (fun _ _ _ h => h) (Or.inl ⟨by rfl, fun W hW => by go_simp⟩) hb2 ?_
    simp only [Act.put, List.getElem_toArray, List.getElem_cons_zero, List.getElem_cons_succ, List.setIfInBounds_toArray, List.set_cons_zero, List.set_cons_succ]
    refine takeG (i := 9) (v := .int .u32 (aluF 3 rv ik)) rfl (by kernel_rfl) (by kernel_rfl) (by kernel_rfl) (by kernel_rfl) (fun _ _ _ h => h) (Or.inl ⟨by rfl, fun W hW => by go_simp⟩) hb2 ?_
    simp only [Act.put, List.getElem_toArray, List.getElem_cons_zero, List.getElem_cons_succ, List.setIfInBounds_toArray, List.set_cons_zero, List.set_cons_succ]
    refine takeG (i := 10) (v := .bool true) rfl (by kernel_rfl) (by kernel_rfl) (by kernel_rfl) (by kernel_rfl) (fun _ _ _ h => h) (Or.inl ⟨by rfl, fun W hW => by go_simp⟩) hb2 ?_
    simp only [Act.put, List.getElem_toArray, List.getElem_cons_zero, List.getElem_cons_succ, List.setIfInBounds_toArray, List.set_cons_zero, List.set_cons_succ]
    refine onlyG (i := 11) (by kernel_rfl) rfl (fun K hK => ?_)
    go_simp
    refine hK.out _ _ hb2 (fun _ => ?_)
    clear hK K
    try simp only [Act.put, List.getElem_toArray, List.getElem_cons_zero, List.getElem_cons_succ, List.setIfInBounds_toArray, List.set_cons_zero, List.set_cons_succ]
    refine lastG (by kernel_rfl) rfl (by kernel_rfl) (fun K hK => ?_)
    go_simp
    refine hK.out _ _ ?_
    clear hK K
    go_wp2
    go_ret
    exact ⟨rfl, by have h0 := HTB.out; subst h0; exact HBH.out.trans (hb2.mono HBH.out.size)⟩
  · rw [addrF_out t ⟨iop, ia, ib, ic, ik⟩ (by dsimp only; omega)]
    have hd : ib < 0 ∨ (0 ≤ ib ∧ 8 ≤ ib) := by omega
    have HB := Lib.hid hB2
    clear hB1 hB2 h
    rcases hd with hd | ⟨hd, hd2⟩
    · go_enter Tryd.func51, Tryd.ntmps51
      go_wp2
      go_ret
      exact ⟨rfl, HB.out⟩
    · have hd' : ¬ ib < 0 := by omega
      go_enter Tryd.func51, Tryd.ntmps51
      go_wp2
      go_ret
      exact ⟨rfl, HB.out⟩
end Go.Proofs.YtjmnogpnjombgaaDoor
