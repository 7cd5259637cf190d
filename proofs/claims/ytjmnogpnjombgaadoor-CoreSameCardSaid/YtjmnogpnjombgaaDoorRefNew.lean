/- The document's New of layer 8. -/
import Derived.Test.YtjmnogpnjombgaaDoorYardG1
import Derived.Deep.DeepCutAuto
namespace Go.Proofs.YtjmnogpnjombgaaDoor
open Go.ChangeShapes Go.WideShapes Go.ChangeAt Go.RowKit Go.Deep
set_option linter.unusedVariables false
set_option maxRecDepth 100000
set_option linter.unusedSimpArgs false

def wZ : Array Value := #[.slice none 0 0, .slice none 0 0, .slice none 0 0, .slice none 0 0, .int .i64 0, .slice none 0 0, .slice none 0 0, .bool false]
def thZ : Th := ⟨0, fun _ => 0, 0⟩
theorem wor_info : (Tryd.prog.info? 40).map (·.size) = some 8 := by kernel_rfl
theorem u32_info3 : (Tryd.prog.info? 22).map (fun i => (i.zero, i.size, i.bytes)) = some (some (.int .u32 0), 1, 4) := by kernel_rfl
theorem th_info3 : (Tryd.prog.info? 25).map (fun i => (i.zero, i.size, i.bytes)) = some (some thZ.val, 10, 48) := by kernel_rfl
theorem se_info3 : (Tryd.prog.info? 27).map (fun i => (i.zero, i.size, i.bytes)) = some (some (.slice none 0 0), 1, 24) := by kernel_rfl

set_option maxHeartbeats 4000000 in
theorem refNew_any (A : Option Addr) (n cap : Nat) (hn : n ≤ 100000) (mA : Option Addr) (m mcap : Nat) (hm : m ≤ 1000000) (Z : Nat → Int) (room : Int) (plain : Bool) (w : World) (hs : Sl w mA m (fun i => .int .u32 (Z i))) :
    Calls Tryd.prog 46 #[.agg #[.slice A n cap, .slice mA m mcap, .int .i64 room], .bool plain] w fun e w' => ∃ tv bv mv, e = .returned (.agg #[.slice A n cap, tv, bv, mv, .int .i64 room, .slice none 0 0, .slice none 0 0, .bool plain]) ∧ w'.ownsRow w.heap.size 25 10 tv n ((List.replicate n thZ).flatMap Th.cells) ∧
      w'.ownsRow w.heap.size 27 1 bv n (List.replicate n (.slice none 0 0)) ∧ w'.ownsRow w.heap.size 22 1 mv m ((List.range m).map fun i => .int .u32 (Z i)) ∧ Below w.heap.size w w' := by
  obtain ⟨i0, hi, hy0, hy1, hy2⟩ := info_parts u32_info3
  obtain ⟨t0, ti, ty0, ty1, ty2⟩ := info_parts th_info3
  obtain ⟨b0, bi, by0, by1, by2⟩ := info_parts se_info3
  have hP := (Blk.new w 63 #[.slice A n cap, .slice mA m mcap, .int .i64 room]).alloc (.cells wZ 40)
  have hR := Blk.new2 w (.cells #[.slice A n cap, .slice mA m mcap, .int .i64 room] 63) 40 wZ
  have hB := ((Below.refl w.heap.size w).alloc (Nat.le_refl _) (.cells #[.slice A n cap, .slice mA m mcap, .int .i64 room] 63)).alloc (by simp) (.cells wZ 40)
  have HS0 := Lib.hid hs
  clear hs
  go_enter Tryd.func46, Tryd.ntmps46
  go_upto_region 1 with fail
  generalize hW2 : (w.alloc (.cells #[.slice A n cap, .slice mA m mcap, .int .i64 room] 63)).alloc (.cells wZ 40) = W2 at hP hR hB
  unfold wZ at hW2
  try rw [hW2]
  clear hW2
  obtain ⟨pb, hpb⟩ : ∃ pb, w.heap.size = pb := ⟨_, rfl⟩
  rw [hpb] at hP hR
  try rw [hpb]
  have HPB := Lib.hid (And.intro hP (And.intro hR (And.intro hB hpb)))
  clear hP hR hB hpb
  go_cut [5] (fun s wx => ∃ gb mA' mc', s = .pointer (some ⟨gb, 0, none⟩) ∧ Blk wx gb 40 #[.slice A n cap, .slice none 0 0, .slice none 0 0, (.slice mA' m mc'), .int .i64 room, .slice none 0 0, .slice none 0 0, .bool plain] ∧ wx.ownsRow w.heap.size 22 1 (.slice mA' m mc') m ((List.range m).map fun i => .int .u32 (Z i)) ∧ Blk wx pb 63 #[.slice A n cap, .slice mA m mcap, .int .i64 room] ∧ Blk wx (pb + 1) 40 wZ ∧ pb + 1 < gb ∧ Below w.heap.size w wx)
  case first =>
    obtain ⟨hP, hR, hB, hpb⟩ := HPB.out
    have HP := Lib.hid hP.drew
    have HR := Lib.hid hR.drew
    have HLT := Lib.hid (show pb + 1 < W2.drew.heap.size from hR.lt)
    have HZ := Lib.hid (show w.heap.size ≤ W2.drew.heap.size from hB.size)
    have hs2 := HS0.out.below (Nat.le_refl _) hB
    have hs3 : Sl W2.drew mA (m * 1) (fun i => .int .u32 (Z i)) := by rw [Nat.mul_one]; exact hs2
    have HS := Lib.hid (fun W' (hW : Below W2.drew.heap.size W2.drew W') => hs3.below (Nat.le_refl _) hW)
    have HB := Lib.hid (show Below w.heap.size w W2.drew from hB.drew)
    have hZ : w.heap.size ≤ W2.drew.heap.size := hB.size
    clear hP hR hB hpb HPB HS0 hs2 hs3
    refine startG (fun W' => Below W2.drew.heap.size W2.drew W') 11 (by kernel_rfl) ?_
    have hH : Below W2.drew.heap.size W2.drew W2.drew := Below.refl _ _
    generalize W2.drew = W0 at HP HR HLT HZ HS HB hH hZ ⊢
    refine takeG0 (i := 0) (v := .pointer (some ⟨pb, 0, none⟩)) rfl (by kernel_rfl) (by kernel_rfl) (by kernel_rfl) (by kernel_rfl) (fun _ _ _ h => h) (Or.inl ⟨by rfl, fun W hW => by go_simp⟩) hH ?_
    simp only [Act.put, List.getElem_toArray, List.getElem_cons_zero, List.getElem_cons_succ, List.setIfInBounds_toArray, List.set_cons_zero, List.set_cons_succ]
    refine takeG (i := 1) (v := .slice A n cap) rfl (by kernel_rfl) (by kernel_rfl) (by kernel_rfl) (by kernel_rfl) (fun _ _ _ h => h) (Or.inl ⟨by rfl, fun W hW => by have q0 := ((HP.out.below hW HP.out.lt).cell 0).trans rfl; go_simp⟩) hH ?_
    simp only [Act.put, List.getElem_toArray, List.getElem_cons_zero, List.getElem_cons_succ, List.setIfInBounds_toArray, List.set_cons_zero, List.set_cons_succ]
    refine takeG0 (i := 3) (v := .pointer (some ⟨pb, 1, none⟩)) rfl (by kernel_rfl) (by kernel_rfl) (by kernel_rfl) (by kernel_rfl) (fun _ _ _ h => h) (Or.inl ⟨by rfl, fun W hW => by go_simp⟩) hH ?_
    simp only [Act.put, List.getElem_toArray, List.getElem_cons_zero, List.getElem_cons_succ, List.setIfInBounds_toArray, List.set_cons_zero, List.set_cons_succ]
    refine takeG (i := 4) (v := .slice mA m mcap) rfl (by kernel_rfl) (by kernel_rfl) (by kernel_rfl) (by kernel_rfl) (fun _ _ _ h => h) (Or.inl ⟨by rfl, fun W hW => by have q0 := ((HP.out.below hW HP.out.lt).cell 1).trans rfl; go_simp⟩) hH ?_
    simp only [Act.put, List.getElem_toArray, List.getElem_cons_zero, List.getElem_cons_succ, List.setIfInBounds_toArray, List.set_cons_zero, List.set_cons_succ]
    refine takeG0 (i := 6) (v := .pointer (some ⟨pb, 2, none⟩)) rfl (by kernel_rfl) (by kernel_rfl) (by kernel_rfl) (by kernel_rfl) (fun _ _ _ h => h) (Or.inl ⟨by rfl, fun W hW => by go_simp⟩) hH ?_
    simp only [Act.put, List.getElem_toArray, List.getElem_cons_zero, List.getElem_cons_succ, List.setIfInBounds_toArray, List.set_cons_zero, List.set_cons_succ]
    refine takeG (i := 7) (v := .int .i64 room) rfl (by kernel_rfl) (by kernel_rfl) (by kernel_rfl) (by kernel_rfl) (fun _ _ _ h => h) (Or.inl ⟨by rfl, fun W hW => by have q0 := ((HP.out.below hW HP.out.lt).cell 2).trans rfl; go_simp⟩) hH ?_
    simp only [Act.put, List.getElem_toArray, List.getElem_cons_zero, List.getElem_cons_succ, List.setIfInBounds_toArray, List.set_cons_zero, List.set_cons_succ]
    refine takeG0 (i := 8) (v := .bool plain) rfl (by kernel_rfl) (by kernel_rfl) (by kernel_rfl) (by kernel_rfl) (fun _ _ _ h => h) (Or.inl ⟨by rfl, fun W hW => by go_simp⟩) hH ?_
    simp only [Act.put, List.getElem_toArray, List.getElem_cons_zero, List.getElem_cons_succ, List.setIfInBounds_toArray, List.set_cons_zero, List.set_cons_succ]
    refine manyG (rs := [2, 10]) (by kernel_rfl) (by simp) (AllG.cons (i := 2) rfl (fun K hK => ?_) (AllG.cons (i := 10) rfl (fun K hK => ?_) AllG.nil))
    · go_simp
      have own0 := own_base (yown_none W0 22 1) hH.size
      have hA := hH.alloc hH.size (Obj.cells #[] 22)
      refine hK.out _ _ hA (fun _ => ?_)
      clear hK K
      try simp only [Act.put, List.getElem_toArray, List.getElem_cons_zero, List.getElem_cons_succ, List.setIfInBounds_toArray, List.set_cons_zero, List.set_cons_succ]
      refine manyG (rs := [5, 10]) (by kernel_rfl) (by simp) (AllG.cons (i := 5) rfl (fun K hK => ?_) (AllG.cons (i := 10) rfl (fun K hK => ?_) AllG.nil))
      · rw [if_pos (by rfl)]
        refine wp_append_sl _ (.tmp 9) (.tmp 11) 28 rfl W0.heap.size 22 i0 _ 1 4 Tryd.underlying28 hi hy0 hy1 hy2 rfl (by omega) _ 0 _ rfl own0 mA m mcap (fun i => .int .u32 (Z i)) rfl (HS.out _ hA) (fun _ _ => rfl) (by unfold maxLen; omega) (by omega) hA.size ?_
        intro mv Wa own2 hg1 _
        obtain ⟨mA', mc', rfl, _, _⟩ := own_sl own2
        rw [Nat.mul_one, List.nil_append, Nat.zero_add] at own2
        have hA2 := below_own hA own0 hg1 (Nat.le_refl _) (Nat.le_refl _)
        refine hK.out _ _ hA2 (fun _ => ?_)
        clear hK K hg1
        try simp only [Act.put, List.getElem_toArray, List.getElem_cons_zero, List.getElem_cons_succ, List.setIfInBounds_toArray, List.set_cons_zero, List.set_cons_succ]
        refine takeG0 (i := 9) (v := .agg #[.slice A n cap, .slice none 0 0, .slice none 0 0, (.slice mA' m mc'), .int .i64 room, .slice none 0 0, .slice none 0 0, .bool plain]) rfl (by kernel_rfl) (by kernel_rfl) (by kernel_rfl) (by kernel_rfl) (fun _ _ _ h => h) (Or.inl ⟨by rfl, fun W hW => by go_simp⟩) hA2 ?_
        simp only [Act.put, List.getElem_toArray, List.getElem_cons_zero, List.getElem_cons_succ, List.setIfInBounds_toArray, List.set_cons_zero, List.set_cons_succ]
        refine onlyG (i := 10) (by kernel_rfl) rfl (fun K hK => ?_)
        go_simp
        have hbw := Blk.new Wa 40 wZ
        have hz3 := hA2.size
        have hA3 := hA2.alloc hA2.size (Obj.cells wZ 40)
        have own3 := own_below own2 (Nat.le_refl _) ((Below.refl Wa.heap.size Wa).alloc (Nat.le_refl _) (Obj.cells wZ 40))
        refine hK.out _ _ hA3 (fun _ => ?_)
        clear hK K
        try simp only [Act.put, List.getElem_toArray, List.getElem_cons_zero, List.getElem_cons_succ, List.setIfInBounds_toArray, List.set_cons_zero, List.set_cons_succ]
        refine lastG (by kernel_rfl) rfl (by kernel_rfl) (fun K hK => ?_)
        refine step_store_row rfl 40 (.tmp 5) (.tmp 16) rfl _ rfl #[.slice A n cap, .slice none 0 0, .slice none 0 0, (.slice mA' m mc'), .int .i64 room, .slice none 0 0, .slice none 0 0, .bool plain] rfl 40 wZ hbw rfl wor_info (by simp [Value.oneCell']) ?_
        intro W3 hb3 hg3
        refine hK.out _ _ ?_
        clear hK K
        have own5 := row_grown own3 hg3 (row_ne hbw own3 (by decide))
        have hB5 := below_row hA3 hg3 hA3.size (by omega)
        have hP5 := (HP.out.below hA3 HP.out.lt).grown hg3 (fun e => by have := HLT.out; have := Option.some.inj e; omega)
        have hR5 := (HR.out.below hA3 HR.out.lt).grown hg3 (fun e => by have := HLT.out; have := Option.some.inj e; omega)
        go_wp2_with fail
        go_meet
        case rel => exact ⟨_, mA', mc', rfl, hb3, own_base own5 HZ.out, hP5, hR5, by have := HLT.out; omega, step_below HB.out hB5⟩
      · go_simp
        have hb1 := Blk.new2 W0 (Obj.cells #[] 22) 40 wZ
        have hA1 := hA.alloc hA.size (Obj.cells wZ 40)
        have own1 := own_below own0 (Nat.le_refl _) ((Below.refl (W0.alloc (Obj.cells #[] 22)).heap.size (W0.alloc (Obj.cells #[] 22))).alloc (Nat.le_refl _) (Obj.cells wZ 40))
        refine hK.out _ _ hA1 (fun _ => ?_)
        clear hK K
        try simp only [Act.put, List.getElem_toArray, List.getElem_cons_zero, List.getElem_cons_succ, List.setIfInBounds_toArray, List.set_cons_zero, List.set_cons_succ]
        refine onlyG (i := 5) (by kernel_rfl) rfl (fun K hK => ?_)
        rw [if_pos (by rfl)]
        refine wp_append_sl _ (.tmp 9) (.tmp 11) 28 rfl W0.heap.size 22 i0 _ 1 4 Tryd.underlying28 hi hy0 hy1 hy2 rfl (by omega) _ 0 _ rfl own1 mA m mcap (fun i => .int .u32 (Z i)) rfl (HS.out _ hA1) (fun _ _ => rfl) (by unfold maxLen; omega) (by omega) hA1.size ?_
        intro mv Wa own2 hg1 _
        obtain ⟨mA', mc', rfl, _, _⟩ := own_sl own2
        rw [Nat.mul_one, List.nil_append, Nat.zero_add] at own2
        have hA2 := below_own hA1 own1 hg1 (Nat.le_refl _) (Nat.le_refl _)
        have hb2 := hb1.grown hg1 (row_ne hb1 own1 (by decide))
        refine hK.out _ _ hA2 (fun _ => ?_)
        clear hK K hg1
        try simp only [Act.put, List.getElem_toArray, List.getElem_cons_zero, List.getElem_cons_succ, List.setIfInBounds_toArray, List.set_cons_zero, List.set_cons_succ]
        refine takeG0 (i := 9) (v := .agg #[.slice A n cap, .slice none 0 0, .slice none 0 0, (.slice mA' m mc'), .int .i64 room, .slice none 0 0, .slice none 0 0, .bool plain]) rfl (by kernel_rfl) (by kernel_rfl) (by kernel_rfl) (by kernel_rfl) (fun _ _ _ h => h) (Or.inl ⟨by rfl, fun W hW => by go_simp⟩) hA2 ?_
        simp only [Act.put, List.getElem_toArray, List.getElem_cons_zero, List.getElem_cons_succ, List.setIfInBounds_toArray, List.set_cons_zero, List.set_cons_succ]
        refine lastG (by kernel_rfl) rfl (by kernel_rfl) (fun K hK => ?_)
        refine step_store_row rfl 40 (.tmp 5) (.tmp 16) rfl _ rfl #[.slice A n cap, .slice none 0 0, .slice none 0 0, (.slice mA' m mc'), .int .i64 room, .slice none 0 0, .slice none 0 0, .bool plain] rfl 40 wZ hb2 rfl wor_info (by simp [Value.oneCell']) ?_
        intro W3 hb3 hg3
        refine hK.out _ _ ?_
        clear hK K
        have own5 := row_grown own2 hg3 (row_ne hb2 own2 (by decide))
        have hB5 := below_row hA2 hg3 hA2.size (by omega)
        have hP5 := (HP.out.below hA2 HP.out.lt).grown hg3 (fun e => by have := HLT.out; have := Option.some.inj e; omega)
        have hR5 := (HR.out.below hA2 HR.out.lt).grown hg3 (fun e => by have := HLT.out; have := Option.some.inj e; omega)
        go_wp2_with fail
        go_meet
        case rel => exact ⟨_, mA', mc', rfl, hb3, own_base own5 HZ.out, hP5, hR5, by have := HLT.out; omega, step_below HB.out hB5⟩
    · go_simp
      have hb0 := Blk.new W0 40 wZ
      have hA := hH.alloc hH.size (Obj.cells wZ 40)
      refine hK.out _ _ hA (fun _ => ?_)
      clear hK K
      try simp only [Act.put, List.getElem_toArray, List.getElem_cons_zero, List.getElem_cons_succ, List.setIfInBounds_toArray, List.set_cons_zero, List.set_cons_succ]
      refine onlyG (i := 2) (by kernel_rfl) rfl (fun K hK => ?_)
      go_simp
      have own0 := own_base (yown_none (W0.alloc (Obj.cells wZ 40)) 22 1) hA.size
      rw [show (W0.alloc (Obj.cells wZ 40)).heap.size = W0.heap.size + 1 by simp] at own0
      have hA1 := hA.alloc hA.size (Obj.cells #[] 22)
      have hb1 := hb0.alloc (Obj.cells #[] 22)
      refine hK.out _ _ hA1 (fun _ => ?_)
      clear hK K
      try simp only [Act.put, List.getElem_toArray, List.getElem_cons_zero, List.getElem_cons_succ, List.setIfInBounds_toArray, List.set_cons_zero, List.set_cons_succ]
      refine onlyG (i := 5) (by kernel_rfl) rfl (fun K hK => ?_)
      rw [if_pos (by rfl)]
      refine wp_append_sl _ (.tmp 9) (.tmp 11) 28 rfl W0.heap.size 22 i0 _ 1 4 Tryd.underlying28 hi hy0 hy1 hy2 rfl (by omega) _ 0 _ rfl own0 mA m mcap (fun i => .int .u32 (Z i)) rfl (HS.out _ hA1) (fun _ _ => rfl) (by unfold maxLen; omega) (by omega) hA1.size ?_
      intro mv Wa own2 hg1 _
      obtain ⟨mA', mc', rfl, _, _⟩ := own_sl own2
      rw [Nat.mul_one, List.nil_append, Nat.zero_add] at own2
      have hA2 := below_own hA1 own0 hg1 (Nat.le_refl _) (Nat.le_refl _)
      have hb2 := hb1.grown hg1 (row_ne hb1 own0 (by decide))
      refine hK.out _ _ hA2 (fun _ => ?_)
      clear hK K hg1
      try simp only [Act.put, List.getElem_toArray, List.getElem_cons_zero, List.getElem_cons_succ, List.setIfInBounds_toArray, List.set_cons_zero, List.set_cons_succ]
      refine takeG0 (i := 9) (v := .agg #[.slice A n cap, .slice none 0 0, .slice none 0 0, (.slice mA' m mc'), .int .i64 room, .slice none 0 0, .slice none 0 0, .bool plain]) rfl (by kernel_rfl) (by kernel_rfl) (by kernel_rfl) (by kernel_rfl) (fun _ _ _ h => h) (Or.inl ⟨by rfl, fun W hW => by go_simp⟩) hA2 ?_
      simp only [Act.put, List.getElem_toArray, List.getElem_cons_zero, List.getElem_cons_succ, List.setIfInBounds_toArray, List.set_cons_zero, List.set_cons_succ]
      refine lastG (by kernel_rfl) rfl (by kernel_rfl) (fun K hK => ?_)
      refine step_store_row rfl 40 (.tmp 5) (.tmp 16) rfl _ rfl #[.slice A n cap, .slice none 0 0, .slice none 0 0, (.slice mA' m mc'), .int .i64 room, .slice none 0 0, .slice none 0 0, .bool plain] rfl 40 wZ hb2 rfl wor_info (by simp [Value.oneCell']) ?_
      intro W3 hb3 hg3
      refine hK.out _ _ ?_
      clear hK K
      have own5 := row_grown own2 hg3 (row_ne hb2 own2 (by decide))
      have hB5 := below_row hA2 hg3 hA2.size (by omega)
      have hP5 := (HP.out.below hA2 HP.out.lt).grown hg3 (fun e => by have := HLT.out; have := Option.some.inj e; omega)
      have hR5 := (HR.out.below hA2 HR.out.lt).grown hg3 (fun e => by have := HLT.out; have := Option.some.inj e; omega)
      go_wp2_with fail
      go_meet
      case rel => exact ⟨_, mA', mc', rfl, hb3, own_base own5 HZ.out, hP5, hR5, by have := HLT.out; omega, step_below HB.out hB5⟩
  case rest =>
    obtain ⟨gb, mA', mc', rfl, hb, hr, hP, hR, hgp, hBx⟩ := hcut
    have hpb := HPB.out.2.2.2
    have HPB2 := Lib.hid hpb
    clear HPB hpb HS0
    have HT := Lib.hid (And.intro hb (And.intro hr (And.intro hP (And.intro hR hBx))))
    clear hb hr hP hR hBx
    go_wp2
    go_loopw [6] (fun i wr => ∃ (k : Nat) (tA : Option Addr) (tc : Nat) (bA : Option Addr) (bc : Nat), k ≤ n ∧ i = .int .i64 k ∧ Blk wr gb 40 #[.slice A n cap, (.slice tA k tc), (.slice bA k bc), (.slice mA' m mc'), .int .i64 room, .slice none 0 0, .slice none 0 0, .bool plain] ∧ wr.ownsRow w.heap.size 22 1 (.slice mA' m mc') m ((List.range m).map fun i => .int .u32 (Z i)) ∧
      wr.ownsRow w.heap.size 25 10 (.slice tA k tc) k ((List.replicate k thZ).flatMap Th.cells) ∧ wr.ownsRow w.heap.size 27 1 (.slice bA k bc) k (List.replicate k (.slice none 0 0)) ∧ Blk wr pb 63 #[.slice A n cap, .slice mA m mcap, .int .i64 room] ∧ Blk wr (pb + 1) 40 wZ ∧ Below w.heap.size w wr) (fun i _ => n - (intOf i).toNat)
    case atStart =>
      obtain ⟨hb, hr, hP, hR, hBx⟩ := HT.out
      exact ⟨0, none, 0, none, 0, Nat.zero_le _, rfl, hb, hr, ⟨rfl, .inl ⟨rfl, rfl⟩⟩, ⟨rfl, .inl ⟨rfl, rfl⟩⟩, hP, hR, hBx⟩
    case round =>
      obtain ⟨k, tA, tc, bA, bc, hk, rfl, hb, hr, ht, hbu, hP, hR, hBx⟩ := hrel
      have p0 : wr.cell? ⟨pb, 0, none⟩ = some (.slice A n cap) := (hP.cell 0).trans rfl
      have g1 : wr.cell? ⟨gb, 1, none⟩ = some (.slice tA k tc) := (hb.cell 1).trans rfl
      by_cases hkn : k < n
      · have hk1 : (k : Int) < (n : Int) := by omega
        have hal := (Below.refl wr.heap.size wr).alloc (Nat.le_refl _) (.cells thZ.cells.toArray 25)
        have ht2 := own_below ht (Nat.le_refl _) hal
        have src := sl_new wr 25 thZ.cells
        have hone : ∀ i, i < 1 * 10 → (thZ.cells.getD i undef).oneCell' = true := fun i hi => by
          rcases ten (by omega : i < 10) with rfl | rfl | rfl | rfl | rfl | rfl | rfl | rfl | rfl | rfl <;> rfl
        have hB2 := step_below hBx hal
        have hz2 := hB2.size
        have HA := Lib.hid (And.intro hb (And.intro hr (And.intro hbu (And.intro hP (And.intro hR (And.intro hal hB2))))))
        clear hb hr hbu hP hR hal hBx hB2
        go_upto_region 6 with (at_builtin; refine wpList_append_sl _ rfl (.tmp 25) (.tmp 27) 35 rfl w.heap.size 25 t0 _ 10 48 Tryd.underlying35 ti ty0 ty1 ty2 rfl (by omega) _ k _ rfl ht2 _ 1 _ (fun i => thZ.cells.getD i undef) rfl src hone (by unfold maxLen; omega) (by omega) hz2 ?_; intro v5 w5 hown5 hg5 _; rw [range_getD thZ.cells (1 * 10) rfl] at hown5; obtain ⟨tA5, tc5, rfl, _, _⟩ := own_sl hown5; have hb5 := (Blk.below HA.out.1 HA.out.2.2.2.2.2.1 HA.out.1.lt).grown hg5 (row_ne (Blk.below HA.out.1 HA.out.2.2.2.2.2.1 HA.out.1.lt) ht2 (by decide)); have q5 : w5.cell? ⟨gb, 1, none⟩ = some (.slice tA k tc) := (hb5.cell 1).trans rfl; have f5 := hb5.frozen 1)
        obtain ⟨hb, hr, hbu, hP, hR, hal, hB2⟩ := HA.out
        have hr4 := own_below hr (Nat.le_refl _) hal
        have hbu4 := own_below hbu (Nat.le_refl _) hal
        have hP4 := Blk.below hP hal hP.lt
        have hR4 := Blk.below hR hal hR.lt
        have hg6 := set_only (w := w5) (g := gb) (j := 1) (.slice tA5 (k + 1) tc5)
        have hb6 := hb5.set_ 1 (.slice tA5 (k + 1) tc5)
        have hr6 := row_grown (own_apart hr4 ht2 (by decide) hg5) hg6 (row_ne hb5 (own_apart hr4 ht2 (by decide) hg5) (by decide))
        have hbu6 := row_grown (own_apart hbu4 ht2 (by decide) hg5) hg6 (row_ne hb5 (own_apart hbu4 ht2 (by decide) hg5) (by decide))
        have ht6 := row_grown hown5 hg6 (row_ne hb5 hown5 (by decide))
        have hP6 := (hP4.grown hg5 (row_ne hP4 ht2 (by decide))).far (p := ⟨gb, 1, none⟩) (by dsimp only; omega) (.slice tA5 (k + 1) tc5)
        have hR6 := (hR4.grown hg5 (row_ne hR4 ht2 (by decide))).far (p := ⟨gb, 1, none⟩) (by dsimp only; omega) (.slice tA5 (k + 1) tc5)
        have hB6 := below_row (below_own hB2 ht2 hg5 (Nat.le_refl _) (Nat.le_refl _)) hg6 (Nat.le_trans hB2.size hg5.size) (by have := HPB2.out; omega)
        clear hb hr hbu hP hR hal hB2 hr4 hbu4 hP4 hR4 hg6 q5 f5 hb5 HA hg5 src hone hz2 ht2 hown5 p0 g1
        generalize w5.setCell ⟨gb, 1, none⟩ (.slice tA5 (k + 1) tc5) = w6 at hb6 hr6 hbu6 ht6 hP6 hR6 hB6 ⊢
        have hb6 : Blk w6 gb 40 #[.slice A n cap, (.slice tA5 (k + 1) tc5), (.slice bA k bc), (.slice mA' m mc'), .int .i64 room, .slice none 0 0, .slice none 0 0, .bool plain] := hb6
        have g2 : w6.cell? ⟨gb, 2, none⟩ = some (.slice bA k bc) := (hb6.cell 2).trans rfl
        have hal := (Below.refl w6.heap.size w6).alloc (Nat.le_refl _) (.cells #[.slice none 0 0] 27)
        have hbu7 := own_below hbu6 (Nat.le_refl _) hal
        have src := sl_new w6 27 [.slice none 0 0]
        have hone : ∀ i, i < 1 * 1 → (([Value.slice none 0 0] : List Value).getD i undef).oneCell' = true := fun i hi => by
          obtain rfl : i = 0 := by omega
          rfl
        have hB7 := step_below hB6 hal
        have hz7 := hB7.size
        have hb7 := Blk.below hb6 hal hb6.lt
        have HA := Lib.hid (And.intro hb7 (And.intro hr6 (And.intro ht6 (And.intro hP6 (And.intro hR6 (And.intro hal hB7))))))
        clear hb6 hr6 ht6 hP6 hR6 hal hB6 hB7 hb7 hbu6
        go_wp2_with (at_builtin; refine wpList_append_sl _ rfl (.tmp 31) (.tmp 32) 36 rfl w.heap.size 27 b0 _ 1 24 Tryd.underlying36 bi by0 by1 by2 rfl (by omega) _ k _ rfl hbu7 _ 1 _ (fun i => ([Value.slice none 0 0] : List Value).getD i undef) rfl src hone (by unfold maxLen; omega) (by omega) hz7 ?_; intro v8 w8 hown8 hg8 _; rw [range_getD [Value.slice none 0 0] (1 * 1) rfl] at hown8; obtain ⟨bA5, bc5, rfl, _, _⟩ := own_sl hown8; have hb8 := HA.out.1.grown hg8 (row_ne HA.out.1 hbu7 (by decide)); have q8 : w8.cell? ⟨gb, 2, none⟩ = some (.slice bA k bc) := (hb8.cell 2).trans rfl; have f8 := hb8.frozen 2)
        obtain ⟨hb7, hr6, ht6, hP6, hR6, hal, hB7⟩ := HA.out
        have hr7 := own_below hr6 (Nat.le_refl _) hal
        have ht7 := own_below ht6 (Nat.le_refl _) hal
        have hP7 := Blk.below hP6 hal hP6.lt
        have hR7 := Blk.below hR6 hal hR6.lt
        have hg9 := set_only (w := w8) (g := gb) (j := 2) (.slice bA5 (k + 1) bc5)
        have hb9 := hb8.set_ 2 (.slice bA5 (k + 1) bc5)
        have hr9 := row_grown (own_apart hr7 hbu7 (by decide) hg8) hg9 (row_ne hb8 (own_apart hr7 hbu7 (by decide) hg8) (by decide))
        have ht9 := row_grown (own_apart ht7 hbu7 (by decide) hg8) hg9 (row_ne hb8 (own_apart ht7 hbu7 (by decide) hg8) (by decide))
        have hbu9 := row_grown hown8 hg9 (row_ne hb8 hown8 (by decide))
        have hP9 := (hP7.grown hg8 (row_ne hP7 hbu7 (by decide))).far (p := ⟨gb, 2, none⟩) (by dsimp only; omega) (.slice bA5 (k + 1) bc5)
        have hR9 := (hR7.grown hg8 (row_ne hR7 hbu7 (by decide))).far (p := ⟨gb, 2, none⟩) (by dsimp only; omega) (.slice bA5 (k + 1) bc5)
        have hB9 := below_row (below_own hB7 hbu7 hg8 (Nat.le_refl _) (Nat.le_refl _)) hg9 (Nat.le_trans hB7.size hg8.size) (by have := HPB2.out; omega)
        clear hb7 hr6 ht6 hP6 hR6 hal hB7 hr7 ht7 hP7 hR7 hg9 q8 f8 hb8 HA hg8 src hone hz7 hbu7 hown8 g2
        go_roundw
        case rel =>
          refine ⟨k + 1, tA5, tc5, bA5, bc5, by omega, by go_num, hb9, hr9, ?_, ?_, hP9, hR9, hB9⟩
          · rw [List.replicate_succ', List.flatMap_append]
            simpa using ht9
          · rw [List.replicate_succ']
            exact hbu9
        case measure => simp [intOf]; omega
      · obtain rfl : n = k := by omega
        have hk1 : ¬ (n : Int) < (n : Int) := by omega
        have HF := Lib.hid (And.intro hr (And.intro ht (And.intro hbu hBx)))
        clear hr ht hbu hBx
        go_wp2_with (first
          | (refine wpList_load_row rfl 40 (.tmp 5) rfl _ rfl 40 #[.slice A n cap, (.slice tA n tc), (.slice bA n bc), (.slice mA' m mc'), .int .i64 room, .slice none 0 0, .slice none 0 0, .bool plain] (0, 0) _ hb Tryd.underlying40 rfl wor_info ?_)
          | (refine wpList_store_row rfl 40 (.tmp 4) (.tmp 35) rfl _ rfl #[.slice A n cap, (.slice tA n tc), (.slice bA n bc), (.slice mA' m mc'), .int .i64 room, .slice none 0 0, .slice none 0 0, .bool plain] rfl 40 wZ hR rfl wor_info (by simp [Value.oneCell']) ?_; intro W9 hb9 hg9))
        exact bodyPost_ret (results_cell Tryd.results46 _ _ _ _ rfl (run_row _ _ _ _ _ _ hb9 Tryd.underlying40 rfl wor_info)) rfl ⟨_, _, _, rfl, by
          obtain ⟨hr, ht, hbu, hBx⟩ := HF.out
          have hpb2 := HPB2.out
          exact ⟨row_grown ht hg9 (row_ne hR ht (by decide)), row_grown hbu hg9 (row_ne hR hbu (by decide)), row_grown hr hg9 (row_ne hR hr (by decide)), below_row hBx hg9 hBx.size (by omega)⟩⟩
end Go.Proofs.YtjmnogpnjombgaaDoor
