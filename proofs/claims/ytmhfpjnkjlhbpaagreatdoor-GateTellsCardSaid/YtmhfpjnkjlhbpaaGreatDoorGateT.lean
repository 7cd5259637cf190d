/- GateTells: the closure that runs a thread alone (printed by gen/gatet.py). -/
import Derived.Test.YtmhfpjnkjlhbpaaGreatDoorGateR
namespace Go.Proofs.YtmhfpjnkjlhbpaaGreatDoor
open Go.ChangeShapes Go.WideShapes Go.ChangeAt Go.RowKit Go.Deep
set_option linter.unusedVariables false
set_option maxRecDepth 100000
set_option linter.unusedSimpArgs false

theorem own_mono {W : World} {b b' s n : Nat} {e : TypeId} {v : Value} {xs : List Value} (h : W.ownsRow b e s v n xs) (hb : b' ≤ b) : W.ownsRow b' e s v n xs := by
  refine ⟨h.1, ?_⟩
  rcases h.2 with hn | ⟨g, cap, cur, rfl, hbg, rest⟩
  · exact .inl hn
  · exact .inr ⟨g, cap, cur, rfl, Nat.le_trans hb hbg, rest⟩
set_option maxHeartbeats 4000000 in
theorem gtrun_any (o0 o1 who arg : Int) (C : Nat → List Ins) (cs : List Nat) (hcs : cs.length ≤ 10) (hgood : CGood C cs) (hright : ((cAll C cs).all fun i => rightB i ((cAll C cs).length : Int)) = true) (hfew : (gtRun C cs).evs.length ≤ 1000) (hmem : (gtRun C cs).mem.length = 18)
    (hcode : ∀ (W : World) (call : Nat), call ∈ cs → Tab W → ONam W → Calls Tryz.prog 34 #[.agg #[.int .i64 o0, .int .i64 o1, .int .i64 0, .int .i64 0], .int .i64 (call : Int), .int .i64 4, .int .i64 who, .int .u32 16, .int .u32 arg] W fun e W' => (∃ v, e = .returned (.tuple #[v, .bool true]) ∧ OutI W v (C call) W') ∧ Below W.heap.size W W')
    (lb tb wb ab : Nat) (w : World) (hT : Tab w) (hO : ONam w) (hl : Blk w lb 3 (cs.map fun (c : Nat) => Value.int .i64 (c : Int)).toArray) (htb : Blk w tb 3 #[.int .i64 4]) (hwb : Blk w wb 3 #[.int .i64 who]) (hab : Blk w ab 42 #[.int .u32 arg]) :
    Calls Tryz.prog 33 #[.agg #[.int .i64 o0, .int .i64 o1, .int .i64 0, .int .i64 0], .slice (some ⟨lb, 0, none⟩) cs.length cs.length, .pointer (some ⟨tb, 0, none⟩), .pointer (some ⟨wb, 0, none⟩), .pointer (some ⟨ab, 0, none⟩)] w fun e W' =>
      (∃ vo vm, e = .returned (.tuple #[vo, vm]) ∧ W'.ownsRow w.heap.size 42 1 vo (outsP (gtRun C cs).evs).length ((outsP (gtRun C cs).evs).map (Value.int .u32)) ∧ W'.ownsRow w.heap.size 42 1 vm (gtRun C cs).mem.length ((gtRun C cs).mem.map (Value.int .u32))) ∧ Below w.heap.size w W' := by
  have hOb := Blk.new w 46 #[.int .i64 o0, .int .i64 o1, .int .i64 0, .int .i64 0]
  have hal := (Below.refl w.heap.size w).alloc (Nat.le_refl _) (.cells #[.int .i64 o0, .int .i64 o1, .int .i64 0, .int .i64 0] 46)
  have HMm := Lib.hid hmem
  clear hmem
  have HS := Lib.hid (And.intro hcs (And.intro hgood (And.intro hright (And.intro hfew hcode))))
  obtain ⟨W0, hW0⟩ : ∃ W0, w.alloc (.cells #[.int .i64 o0, .int .i64 o1, .int .i64 0, .int .i64 0] 46) = W0 := ⟨_, rfl⟩
  have hob := hOb.lt
  rw [hW0] at hOb hal hob
  have HW := Lib.hid (And.intro hOb (And.intro (hl.below hal hl.lt) (And.intro (htb.below hal htb.lt) (And.intro (hwb.below hal hwb.lt) (And.intro (hab.below hal hab.lt) (And.intro hal (And.intro (hT.step hal) (hO.step hal))))))))
  clear hcs hgood hright hfew hcode hl htb hwb hab hT hO hOb hal
  obtain ⟨n, hn⟩ : ∃ n, cs.length = n := ⟨_, rfl⟩
  rw [hn]
  have hn10 : n ≤ 10 := by have := HS.out.1; omega
  go_enter Tryz.func33, Tryz.ntmps33
  go_wp2_with fail
  try rw [hW0]
  obtain ⟨ob, hobe⟩ : ∃ ob, w.heap.size = ob := ⟨_, rfl⟩
  try rw [hobe]
  rw [hobe] at HW hob
  clear hW0
  go_loopw [9, 10] (fun v9 v10 wr => ∃ k : Nat, k ≤ n ∧ v10 = .int .i64 k ∧ wr.ownsRow W0.heap.size 75 5 v9 (cTo C cs k).length ((cTo C cs k).flatMap Ins.cells) ∧ Below W0.heap.size W0 wr)
    (fun v9 v10 _ => n - (intOf v10).toNat)
  case atStart => exact ⟨0, Nat.zero_le _, rfl, ⟨rfl, .inl ⟨rfl, rfl⟩⟩, Below.refl _ _⟩
  case round =>
    obtain ⟨k, hk, rfl, hr, hB⟩ := hrel
    by_cases hlt : k < n
    · have hkn : (k : Int) < (n : Int) := by omega
      have st := fun {g : Nat} {t : TypeId} {c : Array Value} (h : Blk W0 g t c) => (h.below hB h.lt).drew
      have c4 := (st HW.out.2.1).cell k
      obtain ⟨call, hcall⟩ : ∃ call, cs.getD k 0 = call := ⟨_, rfl⟩
      have hmem : call ∈ cs := by rw [← hcall]; exact cs_in cs k (by omega)
      rw [show (cs.map fun (c : Nat) => Value.int .i64 (c : Int)).toArray[k]? = some (.int .i64 (call : Int)) from by rw [← hcall, List.getElem?_toArray, List.getElem?_map, List.getD_eq_getElem?_getD, List.getElem?_eq_getElem (by omega)]; rfl] at c4
      have HOb := Lib.hid (st HW.out.1)
      have t0 := (st HW.out.2.2.1).cell 0
      have w0 := (st HW.out.2.2.2.1).cell 0
      have a0 := (st HW.out.2.2.2.2.1).cell 0
      have HL := Lib.hid (And.intro (st HW.out.1).lt (And.intro (st HW.out.2.1).lt (And.intro (st HW.out.2.2.1).lt (And.intro (st HW.out.2.2.2.1).lt (st HW.out.2.2.2.2.1).lt))))
      have HC := Lib.hid (And.intro c4 (And.intro (t0.trans rfl : _ = some (Value.int .i64 4)) (And.intro (w0.trans rfl : _ = some (Value.int .i64 who)) (a0.trans rfl : _ = some (Value.int .u32 arg)))))
      have HK := Lib.hid (And.intro hcall hmem)
      have HR := Lib.hid (And.intro hr hB)
      have HT9 := Lib.hid (And.intro ((HW.out.2.2.2.2.2.2.1.step hB).drew) (And.intro ((HW.out.2.2.2.2.2.2.2.step hB).step (below_drewB wr)) (below_drewB wr)))
      clear hr hB hcall hmem c4 t0 w0 a0 st
      go_wp2_with fail
      refine startG (fun W' => Below wr.drew.heap.size wr.drew W') 13 (by kernel_rfl) ?_
      generalize wr.drew = W2 at HOb HL HC HT9 ⊢
      have hS0 : Below W2.heap.size W2 W2 := Below.refl _ _
      refine takeG (i := 0) (v := .agg #[.int .i64 o0, .int .i64 o1, .int .i64 0, .int .i64 0]) rfl (by kernel_rfl) (by kernel_rfl) (by kernel_rfl) (by kernel_rfl) (fun _ _ _ h => h) (yields_row (by rfl) 46 (.tmp 5) rfl ob rfl #[.int .i64 o0, .int .i64 o1, .int .i64 0, .int .i64 0] (fun _ hS => run_row _ _ _ _ _ _ (HOb.out.below hS HL.out.1) Tryz.underlying46 rfl obj_info)) hS0 ?_
      simp only [Act.put, List.getElem_toArray, List.getElem_cons_zero, List.getElem_cons_succ, List.setIfInBounds_toArray, List.set_cons_zero, List.set_cons_succ]
      refine takeG0 (i := 1) (v := .slice (some ⟨lb, 0, none⟩) n n) rfl (by kernel_rfl) (by kernel_rfl) (by kernel_rfl) (by kernel_rfl) (fun _ _ _ h => h) (Or.inl ⟨by rfl, fun W hW => by go_simp⟩) hS0 ?_
      simp only [Act.put, List.getElem_toArray, List.getElem_cons_zero, List.getElem_cons_succ, List.setIfInBounds_toArray, List.set_cons_zero, List.set_cons_succ]
      refine takeG0 (i := 2) (v := .int .i64 (k : Int)) rfl (by kernel_rfl) (by kernel_rfl) (by kernel_rfl) (by kernel_rfl) (fun _ _ _ h => h) (Or.inl ⟨by rfl, fun W hW => by go_simp⟩) hS0 ?_
      simp only [Act.put, List.getElem_toArray, List.getElem_cons_zero, List.getElem_cons_succ, List.setIfInBounds_toArray, List.set_cons_zero, List.set_cons_succ]
      refine takeG0 (i := 3) (v := .pointer (some ⟨lb, k, none⟩)) rfl (by kernel_rfl) (by kernel_rfl) (by kernel_rfl) (by kernel_rfl) (fun _ _ _ h => h) (Or.inl ⟨by rfl, fun W hW => by go_simp⟩) hS0 ?_
      simp only [Act.put, List.getElem_toArray, List.getElem_cons_zero, List.getElem_cons_succ, List.setIfInBounds_toArray, List.set_cons_zero, List.set_cons_succ]
      refine takeG (i := 4) (v := .int .i64 (call : Int)) rfl (by kernel_rfl) (by kernel_rfl) (by kernel_rfl) (by kernel_rfl) (fun _ _ _ h => h) (Or.inl ⟨by rfl, fun W hW => by have q0 := keepAt hW HL.out.2.1 HC.out.1; go_simp⟩) hS0 ?_
      simp only [Act.put, List.getElem_toArray, List.getElem_cons_zero, List.getElem_cons_succ, List.setIfInBounds_toArray, List.set_cons_zero, List.set_cons_succ]
      refine takeG (i := 5) (v := .int .i64 4) rfl (by kernel_rfl) (by kernel_rfl) (by kernel_rfl) (by kernel_rfl) (fun _ _ _ h => h) (Or.inl ⟨by rfl, fun W hW => by have q0 := keepAt hW HL.out.2.2.1 HC.out.2.1; go_simp⟩) hS0 ?_
      simp only [Act.put, List.getElem_toArray, List.getElem_cons_zero, List.getElem_cons_succ, List.setIfInBounds_toArray, List.set_cons_zero, List.set_cons_succ]
      refine takeG (i := 6) (v := .int .i64 who) rfl (by kernel_rfl) (by kernel_rfl) (by kernel_rfl) (by kernel_rfl) (fun _ _ _ h => h) (Or.inl ⟨by rfl, fun W hW => by have q0 := keepAt hW HL.out.2.2.2.1 HC.out.2.2.1; go_simp⟩) hS0 ?_
      simp only [Act.put, List.getElem_toArray, List.getElem_cons_zero, List.getElem_cons_succ, List.setIfInBounds_toArray, List.set_cons_zero, List.set_cons_succ]
      refine takeG (i := 7) (v := .int .u32 arg) rfl (by kernel_rfl) (by kernel_rfl) (by kernel_rfl) (by kernel_rfl) (fun _ _ _ h => h) (Or.inl ⟨by rfl, fun W hW => by have q0 := keepAt hW HL.out.2.2.2.2 HC.out.2.2.2; go_simp⟩) hS0 ?_
      simp only [Act.put, List.getElem_toArray, List.getElem_cons_zero, List.getElem_cons_succ, List.setIfInBounds_toArray, List.set_cons_zero, List.set_cons_succ]
      refine onlyG (i := 8) (by kernel_rfl) rfl (fun K hK => ?_)
      go_simp
      have cC := HS.out.2.2.2.2 W2 call HK.out.2 HT9.out.1 HT9.out.2.1
      refine cC.mono ?_
      rintro e W3 ⟨⟨vc, rfl, hOut⟩, hB3⟩
      refine hK.out _ _ hB3 (fun _ => ?_)
      clear hK K cC hS0
      refine takeG0 (i := 9) (v := .tuple #[vc, .bool true]) rfl (by kernel_rfl) (by kernel_rfl) (by kernel_rfl) (by kernel_rfl) (fun _ _ _ h => h) (Or.inl ⟨by rfl, fun W hW => by go_simp⟩) hB3 ?_
      simp only [Act.put, List.getElem_toArray, List.getElem_cons_zero, List.getElem_cons_succ, List.setIfInBounds_toArray, List.set_cons_zero, List.set_cons_succ]
      refine takeG0 (i := 10) (v := vc) rfl (by kernel_rfl) (by kernel_rfl) (by kernel_rfl) (by kernel_rfl) (fun _ _ _ h => h) (Or.inl ⟨by rfl, fun W hW => by go_simp⟩) hB3 ?_
      simp only [Act.put, List.getElem_toArray, List.getElem_cons_zero, List.getElem_cons_succ, List.setIfInBounds_toArray, List.set_cons_zero, List.set_cons_succ]
      refine takeG0 (i := 11) (v := .bool true) rfl (by kernel_rfl) (by kernel_rfl) (by kernel_rfl) (by kernel_rfl) (fun _ _ _ h => h) (Or.inl ⟨by rfl, fun W hW => by go_simp⟩) hB3 ?_
      simp only [Act.put, List.getElem_toArray, List.getElem_cons_zero, List.getElem_cons_succ, List.setIfInBounds_toArray, List.set_cons_zero, List.set_cons_succ]
      refine takeG0 (i := 12) (v := vc) rfl (by kernel_rfl) (by kernel_rfl) (by kernel_rfl) (by kernel_rfl) (fun _ _ _ h => h) (Or.inl ⟨by rfl, fun W hW => by go_simp⟩) hB3 ?_
      simp only [Act.put, List.getElem_toArray, List.getElem_cons_zero, List.getElem_cons_succ, List.setIfInBounds_toArray, List.set_cons_zero, List.set_cons_succ]
      refine lastG (by kernel_rfl) rfl (by kernel_rfl) (fun K hK => ?_)
      go_simp
      refine hK.out _ _ ?_
      clear hK K
      obtain ⟨og, cap, cs2, rfl, hog, hcs2, hcap, hcm, hgo, hins⟩ := hOut
      have hb3 : Below wr.heap.size wr W3 := HT9.out.2.2.trans (hB3.mono HT9.out.2.2.size)
      have hT3 : Tab W3 := HT9.out.1.step hB3
      have hgood := HS.out.2.1 call HK.out.2
      simp only [Bool.and_eq_true, decide_eq_true_eq, List.all_eq_true] at hgood
      have hLk := (cTo_ok HS.out.2.1 k (by omega)).2
      have own3 := own_below HR.out.1 (Nat.le_refl _) hb3
      have hbs3 : W0.heap.size ≤ W3.heap.size := Nat.le_trans HR.out.2.size hb3.size
      obtain ⟨L, hLe⟩ : ∃ L, cTo C cs k = L := ⟨_, rfl⟩
      rw [hLe] at own3 hLk
      obtain ⟨A3, cap3, e9, _, _⟩ := own_cap HR.out.1
      rw [hLe] at e9
      subst e9
      have hcOk : (⟨some ⟨og, 0, none⟩, (C call).length, cap, fun i => (C call).getD i default⟩ : Cd).Ok := ⟨hcap, hcm, fun i hi => okB_ok (hgood.1 _ (by show (C call).getD i default ∈ C call; rw [List.getD_eq_getElem?_getD, List.getElem?_eq_getElem hi]; exact List.getElem_mem hi))⟩
      have cM := moved_any ⟨some ⟨og, 0, none⟩, (C call).length, cap, fun i => (C call).getD i default⟩ (L.length : Int) hcOk (show (C call).length ≤ 100000 by omega) (by omega) (by omega) W3 hT3 (sle_ins hog hins)
      unfold Cd.val at cM
      dsimp only at cM
      obtain ⟨D, hD⟩ : ∃ D, C call = D := ⟨_, rfl⟩
      rw [hD] at cM hgood ⊢
      have hC20 := hgood.2
      have HE := Lib.hid (And.intro hLe (And.intro hD hb3))
      clear hcOk hins hgood hog hcs2 hcap hcm hgo hT3 hB3 hLe hD hb3
      have hl4i : (L.length : Int) ≤ 1000 := by omega
      go_wp2_with fail
      refine cM.mono ?_
      rintro e W5 ⟨cs5, rfl, hb5, hsz5, hin5, hB5⟩
      obtain ⟨C2, hC2⟩ : ∃ C2, D.map (movedI (L.length : Int)) = C2 := ⟨_, rfl⟩
      have hC2l : C2.length = D.length := by rw [← hC2, List.length_map]
      have hin2 : ∀ i, i < C2.length → InsAt cs5 i (C2.getD i default) := fun i hi => by
        have h := hin5 i (by omega)
        have e2 : C2.getD i default = movedI (L.length : Int) (D.getD i default) := by
          have hi2 : i < D.length := by omega
          rw [← hC2]
          simp [List.getD_eq_getElem?_getD, List.getElem?_eq_getElem hi2]
        rw [e2]
        exact h
      have src5 := sl_ins (cap := 0) hb5 hin2
      have own5 := own_below own3 (Nat.le_refl _) hB5
      have hbs5 : W0.heap.size ≤ W5.heap.size := Nat.le_trans hbs3 hB5.size
      have HM := Lib.hid (And.intro hB5 hC2)
      generalize W3.heap.size = mb at hb5 src5 ⊢
      clear cM hb5 hsz5 hin5 hin2 hB5 hC2 own3 hbs3
      have hlen6 : (L ++ C2).length = L.length + D.length := by rw [List.length_append, hC2l]
      have hlen8 : (L ++ C2 ++ [(⟨22, 7, 0, 0, 0⟩ : Ins)]).length = L.length + D.length + 1 := by rw [List.length_append, hlen6]; rfl
      go_wp2_with (first | (at_builtin; refine wpList_append_ins rfl (.tmp 34) (.tmp 38) rfl W0.heap.size (.slice A3 L.length cap3) L C2 rfl own5 (some ⟨mb, 0, none⟩) D.length (by show Value.slice (some ⟨mb, 0, none⟩) D.length D.length = .slice (some ⟨mb, 0, none⟩) C2.length D.length; rw [hC2l]) src5 (by omega) hbs5 ?_; intro A6 c6 W6 own6 hg6 hb6; have own7 := own_below (own_re own6 hlen6) (Nat.le_refl _) ((Below.refl W6.heap.size W6).alloc (Nat.le_refl _) (.cells #[.int .i64 22, .int .i64 7, .int .i64 0, .int .i64 0, .int .u32 0] 75)); have src7 := sl_one W6 ⟨22, 7, 0, 0, 0⟩; have hbs7 : W0.heap.size ≤ (W6.alloc (.cells #[.int .i64 22, .int .i64 7, .int .i64 0, .int .i64 0, .int .u32 0] 75)).heap.size := Nat.le_trans (Nat.le_trans hbs5 hg6.size) (by simp)) | (at_builtin; refine wpList_append_ins rfl (.tmp 40) (.tmp 42) rfl W0.heap.size (.slice A6 (L.length + D.length) c6) (L ++ C2) [⟨22, 7, 0, 0, 0⟩] rfl own7 _ 1 rfl src7 (by simp; omega) hbs7 ?_; intro A8 c8 W8 own8 hg8 hb8; have own9 := own_re own8 hlen8; clear own6 own7 src7 own8))
      go_roundw
      case rel =>
        refine ⟨k + 1, by omega, by go_num, ?_, ?_⟩
        · have e : cTo C cs (k + 1) = L ++ C2 ++ [⟨22, 7, 0, 0, 0⟩] := by
            rw [cTo_succ C cs k (by omega), HK.out.1, HE.out.1]
            unfold cAdd
            rw [HE.out.2.1, HM.out.2]
          rw [e]
          exact own9
        · have h3 := HR.out.2.trans (HE.out.2.2.mono HR.out.2.size)
          have h6 := (h3.trans (HM.out.1.mono h3.size)).trans hb6
          have h7 := h6.trans (((Below.refl W6.heap.size W6).alloc (Nat.le_refl _) (.cells #[.int .i64 22, .int .i64 7, .int .i64 0, .int .i64 0, .int .u32 0] 75)).mono h6.size)
          exact h7.trans hb8
      case measure => simp [intOf]; omega
    · obtain rfl : k = n := by omega
      have hLok := cTo_ok HS.out.2.1 k (by omega)
      rw [← hn, cTo_all] at hLok
      have hr9 := hr
      rw [← hn, cTo_all] at hr9
      have hright := HS.out.2.2.1
      obtain ⟨L, hLe⟩ : ∃ L, cAll C cs = L := ⟨_, rfl⟩
      rw [hLe] at hLok hr9 hright
      obtain ⟨A4, c4, e9, _, _⟩ := own_cap hr9
      subst e9
      have hll : L.length ≤ 4000 := by have := hLok.2; omega
      obtain ⟨pO, pC, pA⟩ := aPg_ok L 1 18 (by decide) (by decide) hLok.1 hll hright W0.heap.size c4 A4 wr hr9
      have hal4 := (Below.refl wr.heap.size wr).alloc (Nat.le_refl _) (.cells #[.slice A4 L.length c4] 50)
      have hal5 := hal4.alloc hal4.size (.cells (List.replicate 18 (Value.int .u32 0)).toArray 42)
      have hb5 := hB.trans (hal5.mono hB.size)
      have hT5 := HW.out.2.2.2.2.2.2.1.step hb5
      have cN := tsoNew_ok _ pO 0 0 pC _ hT5 pA
      have hb6 : Below ob w W0 := HW.out.2.2.2.2.2.1
      have HP := Lib.hid (And.intro pO (And.intro (hb6.trans (hb5.mono (by have := hb6.size; omega))) hT5))
      have hmk : ∀ w : World, (Instr.makeSlice 27 (.int .i64 18) (.int .i64 18)).run Tryz.prog w = .ok (.slice (some ⟨w.heap.size, 0, none⟩) 18 18) (w.alloc (.cells (List.replicate 18 (Value.int .u32 0)).toArray 42)) := fun w => makeW 18 (by decide) w
      clear pA pC hT5 hal4 hal5 hb5 pO hr hr9 hB hLok hright hb6
      unfold Pg.val at cN
      dsimp only [aPg] at cN
      change Calls Tryz.prog 16 #[.agg #[.slice (some ⟨wr.heap.size, 0, none⟩) 1 1, .slice (some ⟨wr.heap.size + 1, 0, none⟩) 18 18, .int .i64 1]] _ _ at cN
      go_wp2_with fail
      refine cN.mono ?_
      rintro r W6 ⟨B, rfl, hNew, hroom, hI, hB6⟩
      have hNew' : NewM (aPg wr.heap.size (wr.heap.size + 1) A4 c4 L 1 18) B := hNew
      have hBok : MBok B := newM_ok hNew' (show 1 ≤ 8 by decide) (show 18 ≤ 1024 by decide)
      have hOk0 := t0_ok HP.out.1 hNew'
      have hCan0 : mCan B 1300 (t0 (aPg wr.heap.size (wr.heap.size + 1) A4 c4 L 1 18)) := t0_can (show 1 ≤ 8 by decide) 1300 (by decide)
      have hroom2 : B.room ≤ 16 := by rw [hroom]; decide
      have hend : tRun B (t0 (aPg wr.heap.size (wr.heap.size + 1) A4 c4 L 1 18)) (gtPicks 200) = gtRun C cs := by
        rw [aSame hNew' hroom]
        unfold gtRun
        rw [hLe]
      have hT6 := HP.out.2.2.step hB6
      have hb6 : Below ob w W6 := HP.out.2.1.trans (hB6.mono (by have := HP.out.2.1.size; omega))
      obtain ⟨own0, hI0, hI2⟩ : ∃ own0 : Nat → Prop, MInv tsoL B (t0 (aPg wr.heap.size (wr.heap.size + 1) A4 c4 L 1 18)) own0 W6 ∧ ∀ i, own0 i → ob ≤ i := ⟨_, hI, fun i hi => by have h1 := hi.1; have h2 := HP.out.2.1.size; omega⟩
      clear cN hNew hNew' hI hB6 hroom
      generalize t0 (aPg wr.heap.size (wr.heap.size + 1) A4 c4 L 1 18) = s0 at hend hOk0 hCan0 hI0
      have HM := Lib.hid (And.intro hend (And.intro hBok (And.intro hOk0 (And.intro hCan0 (And.intro hroom2 (And.intro hI0 (And.intro hI2 (And.intro hT6 hb6))))))))
      clear hend hBok hOk0 hCan0 hroom2 hI0 hI2 hT6 hb6 hmk hll
      go_wp2_with fail
      go_loopw [15] (fun v15 wq => ∃ j : Nat, j ≤ 200 ∧ v15 = .int .i64 j ∧ Moves (MInv tsoL B) (tRun B s0 (gtPicks j)) own0 W6 wq) (fun v15 _ => 200 - (intOf v15).toNat)
      case atStart => exact ⟨0, Nat.zero_le _, rfl, own0, HM.out.2.2.2.2.2.1, fun i hi => .inl hi, KeepOut.refl _ _⟩
      case round =>
        obtain ⟨j, hj, rfl, own1, hI1, ho1, hk1⟩ := hrel
        have hTq := hk1.tab HM.out.2.2.2.2.2.1.lo HM.out.2.2.2.2.2.2.2.1
        by_cases hlt : j < 200
        · have can := fun (ps : List (Int × Int)) (hp : ps.length ≤ 401) => tRun_can HM.out.2.1 HM.out.2.2.2.2.1 ps s0 3 HM.out.2.2.1 (by
            have h := HM.out.2.2.2.1
            exact ⟨by have := h.evs; omega, by have := h.slp; omega, h.who, h.buf, h.t8⟩)
          have cP := tpick_any B HM.out.2.1 HM.out.2.2.2.2.1 _ (tRun_ok HM.out.2.1 _ s0 HM.out.2.2.1) (can (gtPicks j) (by rw [gtPicks_len]; omega)) own1 _ hI1 hTq (0, 0)
          have hj4 : (j : Int) < 200 := by omega
          have HO := Lib.hid (And.intro ho1 hk1)
          clear hI1 hTq ho1 hk1
          go_wp2_with fail
          refine cP.mono ?_
          rintro e W8 ⟨⟨u, rfl⟩, hM2⟩
          clear cP
          have hM3 := Moves.after HO.out.1 HO.out.2 hM2
          rw [← tRun_snoc] at hM3
          obtain ⟨own2, hI2, ho2, hk2⟩ := hM3
          have hT8 := hk2.tab HM.out.2.2.2.2.2.1.lo HM.out.2.2.2.2.2.2.2.1
          have cP2 := tpick_any B HM.out.2.1 HM.out.2.2.2.2.1 _ (tRun_ok HM.out.2.1 _ s0 HM.out.2.2.1) (can (gtPicks j ++ [(0, 0)]) (by rw [List.length_append, gtPicks_len]; simp; omega)) own2 _ hI2 hT8 (1, 0)
          have HO2 := Lib.hid (And.intro ho2 hk2)
          clear hI2 ho2 hk2 hT8 hM2 can
          go_wp2_with fail
          refine cP2.mono ?_
          rintro e W9 ⟨⟨u2, rfl⟩, hM4⟩
          clear cP2
          go_wp2
          go_roundw
          case rel =>
            refine ⟨j + 1, by omega, by go_num, ?_⟩
            have hM5 := Moves.after HO2.out.1 HO2.out.2 hM4
            rw [← tRun_snoc, List.append_assoc] at hM5
            rw [gtPicks_succ]
            exact hM5
          case measure => simp [intOf]; omega
        · obtain rfl : j = 200 := by omega
          rw [HM.out.1] at hI1
          have hbq : Below ob w wr := HM.out.2.2.2.2.2.2.2.2.trans ⟨hk1.os, hk1.tape, hk1.output, hk1.size, fun i hi => hk1.block i (by have := HM.out.2.2.2.2.2.2.2.2.size; omega) (fun ho => by have := HM.out.2.2.2.2.2.2.1 i ho; omega)⟩
          have cE := tevents_any B _ own1 _ hI1 (by have := HS.out.2.2.2.1; omega)
          have HI := Lib.hid (And.intro hI1 hbq)
          clear hI1 hTq ho1 hk1 hlt hbq
          obtain ⟨S, hS⟩ : ∃ S, gtRun C cs = S := ⟨_, rfl⟩
          have hfew := HS.out.2.2.2.1
          have hmm := HMm.out
          rw [hS] at cE HI hfew hmm
          go_wp2_with fail
          refine cE.mono ?_
          rintro e W8 ⟨ve, rfl, hr8, hB8⟩
          clear cE
          obtain ⟨AE, capE, rfl, _, hslE⟩ := own_sle Evt.cells (fun _ => rfl) ev0 S.evs hr8
          have cO := outs_any AE S.evs.length capE (fun i => toEv (S.evs.getD i ev0)) 0 (by omega) W8 hslE
          rw [oL_evs] at cO
          have hI8 := HI.out.1.below hB8
          clear hr8 hslE
          go_wp2_with fail
          refine cO.mono ?_
          rintro e W9 ⟨vo, rfl, hr9, hB9⟩
          clear cO
          have hI9 := hI8.below hB9
          have cM := tmem_any B S own1 W9 hI9 (by omega)
          have hb9 : Below ob w W9 := (HI.out.2.trans (hB8.mono (by have := HI.out.2.size; omega))).trans (hB9.mono (by have := HI.out.2.size; have := hB8.size; omega))
          have HR9 := Lib.hid (And.intro hr9 (And.intro hb9 (show ob ≤ W8.heap.size from by have := HI.out.2.size; have := hB8.size; omega)))
          clear hI8 hI9 hr9 hB8 hB9 hb9
          go_wp2_with fail
          refine cM.mono ?_
          rintro e Wa ⟨vm, rfl, hra, hBa⟩
          clear cM
          have hr9' := own_below HR9.out.1 (Nat.le_refl _) hBa
          have HF := Lib.hid (And.intro (own_mono hr9' HR9.out.2.2) (And.intro (own_mono hra (show ob ≤ W9.heap.size from by have := HR9.out.2.1.size; omega)) (HR9.out.2.1.trans (hBa.mono (by have := HR9.out.2.1.size; omega)))))
          clear hra hr9' hBa
          go_wp2
          go_ret2
          rw [hobe, hS]
          exact ⟨⟨_, _, rfl, HF.out.1, HF.out.2.1⟩, HF.out.2.2⟩
end Go.Proofs.YtmhfpjnkjlhbpaaGreatDoor
