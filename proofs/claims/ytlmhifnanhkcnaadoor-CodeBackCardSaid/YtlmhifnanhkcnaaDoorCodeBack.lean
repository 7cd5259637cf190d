/- CodeBack returns true for every program, cut and byte, in a world that holds the tables: the row and the card. -/
import Derived.Test.YtlmhifnanhkcnaaDoorCodeAgain
import Derived.Test.YtlmhifnanhkcnaaDoorCodeSame
namespace Go.Proofs.YtlmhifnanhkcnaaDoor
open Go.ChangeShapes Go.WideShapes Go.ChangeAt Go.RowKit Go.Deep
set_option linter.unusedVariables false
set_option linter.unusedSimpArgs false

theorem wB_bytes {n : Int} (h0 : 0 ≤ n) (h1 : n ≤ 4294967295) : ∀ x ∈ wB n, 0 ≤ x ∧ x ≤ 255 := by
  intro x hx
  simp only [wB, List.mem_cons, List.not_mem_nil, or_false] at hx
  rcases hx with rfl | rfl | rfl | rfl <;> omega
theorem twoB_bytes {n : Int} (h0 : 0 ≤ n) (h1 : n ≤ 65535) : ∀ x ∈ twoB n, 0 ≤ x ∧ x ≤ 255 := by
  intro x hx
  simp only [twoB, List.mem_cons, List.not_mem_nil, or_false] at hx
  rcases hx with rfl | rfl <;> omega
theorem wrB_bytes (p : Pg) (ho : p.Ok) (h : Chk p 0 0 0) : ∀ x ∈ wrB p, 0 ≤ x ∧ x ≤ 255 := by
  obtain ⟨f1, f2, f3, f4, f5, f6⟩ := chk_fine h rfl
  intro x hx
  unfold wrB at hx
  rw [List.mem_append, List.mem_append, List.mem_append] at hx
  rcases hx with ((hx | hx) | hx) | hx
  · simp only [List.mem_cons, List.not_mem_nil, or_false] at hx
    rcases hx with rfl | rfl | rfl | rfl | rfl <;> omega
  · exact twoB_bytes (by omega) (by omega) x hx
  · unfold memB at hx
    obtain ⟨i, hi, hx⟩ := List.mem_flatMap.1 hx
    have := ho.z0 i (by simpa using hi)
    exact wB_bytes this.1 this.2 x hx
  · unfold codesB at hx
    obtain ⟨s, hs, hx⟩ := List.mem_flatMap.1 hx
    have hs' : s < p.n := by simpa using hs
    obtain ⟨hg1, hg2⟩ := f6 s hs'
    rcases List.mem_append.1 hx with hx | hx
    · exact twoB_bytes (by omega) (by omega) x hx
    · unfold codB at hx
      obtain ⟨j, hj, hx⟩ := List.mem_flatMap.1 hx
      have hj' : j < (p.cd s).len := by simpa using hj
      obtain ⟨b1, b2, b3, b4⟩ := right_bytes (hg2 j hj')
      have hk := (ho.cds s hs').ins j hj'
      rw [insB_eq, List.mem_append] at hx
      rcases hx with hx | hx
      · simp only [List.mem_cons, List.not_mem_nil, or_false] at hx
        unfold inByte at *
        rcases hx with rfl | rfl | rfl | rfl <;> assumption
      · exact wB_bytes hk.k0 hk.k1 x hx
theorem wrB_bound (p : Pg) (h : Chk p 0 0 0) : 7 ≤ (wrB p).length ∧ (wrB p).length ≤ 900000 := by
  obtain ⟨f1, f2, f3, f4, f5, f6⟩ := chk_fine h rfl
  have := codesB_len p.cd p.n fun s hs => (f6 s hs).1
  rw [wrB_len]
  omega

theorem rd_back (p : Pg) (h : Chk p 0 0 0) {Z : Nat → Int} (hz : Zat Z 0 (wrB p)) : RdO Z (wrB p).length 0 0 ∧ Rep (rdP Z (wrB p).length) p ∧ (∀ k, k < (wrB p).length → RdO Z k k 2) ∧ ∀ len, (wrB p).length < len → RdO Z len (wrB p).length 4 := by
  obtain ⟨f1, f2, f3, f4, f5, f6⟩ := chk_fine h rfl
  obtain ⟨hh, he, hr⟩ := back_of p (by omega) hz
  have h7 := endZ_ge (Z := Z)
  obtain ⟨e4, hp⟩ := st4_ok (Z := Z) (len := (wrB p).length) (by omega)
  refine ⟨.form 0 0 0 (by omega) hh (by rw [e4]) (by rw [e4]; show _ ≤ endZ Z; omega) (chk_rep (hp.trans hr).symm h), hp.trans hr, fun k hk => ?_, fun len hl => ?_⟩
  · by_cases h3 : k < 3
    · exact .tiny h3
    · exact .short (by omega) hh (st4_no (by omega) (by omega))
  · obtain ⟨e5, _⟩ := st4_ok (Z := Z) (len := len) (by omega)
    have := RdO.long (Z := Z) (len := len) (by omega) hh (by rw [e5]) (by rw [e5]; show endZ Z < len; omega)
    rw [e5] at this
    rw [← he]
    exact this
theorem zat_self (L : List Int) : Zat (fun i => L.getD i 0) 0 L := fun i _ => by simp
theorem zat_more (L : List Int) (x : Int) : Zat (fun i => (L ++ [x]).getD i 0) 0 L := ((zat_app 0 L [x]).1 (zat_self (L ++ [x]))).1
theorem Sl.front {W : World} {A : Option Addr} {n k : Nat} {C : Nat → Value} (h : Sl W A n C) (hk : k ≤ n) : Sl W A k C := fun h0 => by
  obtain ⟨b, off, rfl, hlt, hc⟩ := h (by omega)
  exact ⟨b, off, rfl, hlt, fun i hi => hc i (by omega)⟩

set_option maxRecDepth 100000 in
set_option maxHeartbeats 4000000 in
theorem codeBack_true (p : Pg) (ho : p.Ok) (cut more : Int) (hc0 : 0 ≤ cut) (hc1 : cut ≤ 65535) (hm0 : 0 ≤ more) (hm1 : more ≤ 255) (w : World) (ht : Tab w) (ha : p.At w) :
    Calls Tryd.prog 9 #[p.val, .int .u16 cut, .int .u8 more] w fun e w' => e = .returned (.bool true) ∧ Below w.heap.size w w' := by
  obtain ⟨t, j, e, hC⟩ := chk_some p
  have cS := few_any p ho
  have cN := fun (he : e ≠ 0) => write_no p ho t j e hC he
  have hC0 : e = 0 → Chk p 0 0 0 := by
    intro he
    subst he
    exact chk_zero hC
  have cY := fun (he : e = 0) => write_yes p ho (hC0 he)
  have hF : e = 0 → ∃ L : List Int, wrB p = L ∧ 7 ≤ L.length ∧ L.length ≤ 900000 ∧ (∀ x ∈ L, 0 ≤ x ∧ x ≤ 255) ∧ ∀ Z, Zat Z 0 L → RdO Z L.length 0 0 ∧ Rep (rdP Z L.length) p ∧ (∀ k, k < L.length → RdO Z k k 2) ∧ ∀ len, L.length < len → RdO Z len L.length 4 := fun he =>
    ⟨_, rfl, (wrB_bound p (hC0 he)).1, (wrB_bound p (hC0 he)).2, wrB_bytes p ho (hC0 he), fun Z hz => rd_back p (hC0 he) hz⟩
  have cM := fun (q : Pg) (hr : Rep q p) (hq : q.Ok) => same_rep p q hr.symm ho hq
  clear hC0 hC
  have HS := Lib.hid cS
  have HN := Lib.hid cN
  have HM := Lib.hid cM
  have HF := Lib.hid hF
  have HY := Lib.hid cY
  clear cS cN cM hF cY ho
  obtain ⟨A, n, cap, cd, mA, m, mcap, Z, room⟩ := p
  have hB := (Below.refl w.heap.size w).alloc (Nat.le_refl _) (Obj.cells #[.slice A n cap, .slice mA m mcap, .int .i64 room] 38)
  have hq := Blk.new w 38 #[.slice A n cap, .slice mA m mcap, .int .i64 room]
  unfold Pg.val
  dsimp only
  go_enter Tryd.func9, Tryd.ntmps9
  go_wp2_with fail
  refine (awake_any _).mono ?_
  rintro r1 w1 ⟨rfl, hb1⟩
  have hB1 := step_below hB hb1
  have hq1 := hq.below hb1 hq.lt
  have g0 := hq1.cell 0
  have g1 := hq1.cell 1
  have g2 := hq1.cell 2
  simp only [List.getElem?_toArray, List.getElem?_cons_zero, List.getElem?_cons_succ] at g0 g1 g2
  clear hq
  go_wp2_with fail
  refine (HS.out _ (ha.step hB1)).mono ?_
  rintro r2 w2 ⟨⟨b, rfl⟩, hb2⟩
  have hB2 := step_below hB1 hb2
  have hq2 := hq1.below hb2 hq1.lt
  clear g0 g1 g2
  have g0 := hq2.cell 0
  have g1 := hq2.cell 1
  have g2 := hq2.cell 2
  simp only [List.getElem?_toArray, List.getElem?_cons_zero, List.getElem?_cons_succ] at g0 g1 g2
  clear hb2 hb1 hq1 hB hB1
  cases b
  · go_wp2_with fail
    refine (awake_any _).mono ?_
    rintro r3 w3 ⟨rfl, hb3⟩
    go_wp2
    go_ret
    exact ⟨rfl, step_below hB2 hb3⟩
  go_wp2_with fail
  by_cases he : e = 0
  · obtain ⟨L, hwL, h7, h9, hby, hL⟩ := HF.out he
    refine (HY.out he _ (ht.step hB2) (ha.step hB2)).mono ?_
    rintro r3 w3 ⟨v, rfl, hown, hb3⟩
    rw [hwL] at hown
    obtain ⟨A3, c3, rfl, hc3, hs3⟩ := hown.sl
    have hB3 := step_below hB2 hb3
    have hq3 := hq2.below hb3 hq2.lt
    clear g0 g1 g2
    obtain ⟨len, hlen⟩ : ∃ k, L.length = k := ⟨_, rfl⟩
    have hby2 : ∀ i, i < len → 0 ≤ L.getD i 0 ∧ L.getD i 0 ≤ 255 := fun i hi => hby _ (getD_mem (by omega))
    rw [hlen] at h7 h9 hs3 hc3 hL ⊢
    have HL := Lib.hid hL
    have HB := Lib.hid (And.intro hby hby2)
    have HE := Lib.hid hlen
    clear hL hby hby2 hlen hown hwL HF HY HN
    go_wp2_with fail
    refine (read_any A3 len c3 _ hc3 (by omega) _ (ht.step hB3) hs3 HB.out.2 0 0 (HL.out _ (zat_self L)).1).mono ?_
    rintro r4 w4 ⟨v4, rfl, _, hv4, hb4⟩
    obtain ⟨q, rfl, hrep, hqok, hqat⟩ := hv4 rfl
    clear hv4
    have cM := HM.out q (hrep.trans (HL.out _ (zat_self L)).2.1) hqok
    have hB4 := step_below hB3 hb4
    have hq4 := (hq3.below hb4 hq3.lt)
    have hs4 := hs3.step hb4
    clear hrep hqok hb3 hb4 hq2 hq3 hs3 hB2 hB3
    obtain ⟨QA, qn, qcap, qcd, qmA, qm, qmcap, qZ, qroom⟩ := q
    unfold Pg.val at cM ⊢
    dsimp only at cM ⊢
    have hlt4 := hq4.lt
    have hB5 := hB4.alloc hB4.size (Obj.cells #[.slice QA qn qcap, .slice qmA qm qmcap, .int .i64 qroom] 38)
    have hq5 := hq4.alloc (Obj.cells #[.slice QA qn qcap, .slice qmA qm qmcap, .int .i64 qroom] 38)
    have hr5 := Blk.new w4 38 #[.slice QA qn qcap, .slice qmA qm qmcap, .int .i64 qroom]
    have hat5 := hqat.alloc (Obj.cells #[.slice QA qn qcap, .slice qmA qm qmcap, .int .i64 qroom] 38)
    have hs5 := hs4.step ((Below.refl _ w4).alloc (Nat.le_refl _) (Obj.cells #[.slice QA qn qcap, .slice qmA qm qmcap, .int .i64 qroom] 38))
    have g0 := hq5.cell 0
    have g1 := hq5.cell 1
    have g2 := hq5.cell 2
    have k0 := hr5.cell 0
    have k1 := hr5.cell 1
    have k2 := hr5.cell 2
    simp only [List.getElem?_toArray, List.getElem?_cons_zero, List.getElem?_cons_succ] at g0 g1 g2 k0 k1 k2
    have HQ := Lib.hid cM
    have HT := Lib.hid hat5
    clear cM hat5 hqat hB4 hq4 hs4
    go_wp2_with fail
    refine (HQ.out _ (ha.step hB5) HT.out).mono ?_
    rintro r6 w6 ⟨rfl, hb6⟩
    have hB6 := step_below hB5 hb6
    have hs6 := hs5.step hb6
    clear g0 g1 g2 k0 k1 k2 hs5 hr5 hq5 hb6 hlt4
    have hne : ((len : Int) == 0) = false := by simp; omega
    go_upto_region 10 with fail
    obtain ⟨k, hk⟩ : ∃ k : Nat, cut % (len : Int) = (k : Int) := ⟨(cut % (len : Int)).toNat, by have := Int.emod_nonneg cut (show (len : Int) ≠ 0 by omega); omega⟩
    have hkl : k < len := by
      have := Int.emod_lt_of_pos cut (show (0 : Int) < (len : Int) by omega)
      omega
    rw [hk]
    clear hk
    have HS6 := Lib.hid hs6
    obtain ⟨b3, o3, rfl, hlt3, _⟩ := hs6 (by omega)
    have hk1 : (k : Int) ≤ (c3 : Int) := by omega
    clear hs6
    go_wp2_with fail
    refine (read_any _ k c3 _ (by omega) (by omega) _ (ht.step hB6) (HS6.out.front (by omega)) (fun i hi => HB.out.2 i (by omega)) k 2 ((HL.out _ (zat_self L)).2.2.1 k hkl)).mono ?_
    rintro r7 w7 ⟨v7, rfl, hv7, _, hb7⟩
    obtain rfl := hv7 (by decide)
    have hB7 := step_below hB6 hb7
    have hs7 := HS6.out.step hb7
    clear hv7 hb7 HS6 hlt3 hB6
    unfold zeroPg
    have hB8 := hB7.alloc hB7.size (Obj.cells #[.slice none 0 0, .slice none 0 0, .int .i64 0] 38)
    have hs8 := hs7.step ((Below.refl _ w7).alloc (Nat.le_refl _) (Obj.cells #[.slice none 0 0, .slice none 0 0, .int .i64 0] 38))
    go_upto_region 11 with fail
    obtain ⟨w8, hw8⟩ : ∃ w8, w7.alloc (Obj.cells #[.slice none 0 0, .slice none 0 0, .int .i64 0] 38) = w8 := ⟨_, rfl⟩
    rw [hw8] at hB8 hs8 ⊢
    clear hw8 hB7 hs7
    have hB9 := hB8.alloc hB8.size (Obj.cells #[] 5)
    have hs9 := hs8.step ((Below.refl _ w8).alloc (Nat.le_refl _) (Obj.cells #[] 5))
    have hnew := Blk.new w8 5 #[]
    have hown0 : BytesO (w8.alloc (Obj.cells #[] 5)) w8.heap.size (.slice (some ⟨w8.heap.size, 0, none⟩) 0 0) [] := own_lit (n := 0) (base := w8.heap.size) hnew rfl (Nat.le_refl _) (Nat.zero_le _)
    have hw8' : w.heap.size ≤ w8.heap.size := hB8.size
    clear hnew hB8 hs8
    go_wp2_with (first
      | (at_builtin; refine wpList_append_bytes rfl (.tmp 74) (.tmp 75) rfl rfl w8.heap.size _ [] rfl hown0 _ len c3 L HE.out rfl hs9 (by simp; omega) (by simp) ?_; intro v1 w9 hown1 hg1; have hB10 := below_own hB9 hown0 hg1 hw8' (Nat.le_refl _); have hz9 := hg1.size; have hB11 := hB10.alloc hB10.size (Obj.cells #[.int .u8 more] 5); have hown2 := hown1.alloc (Obj.cells #[.int .u8 more] 5); have hsn : Sl (w9.alloc (Obj.cells #[.int .u8 more] 5)) (some ⟨w9.heap.size, 0, none⟩) 1 (fun i => .int .u8 ([more].getD i 0)) := sl_bytes w9 _ [more])
      | (at_builtin; refine wpList_append_bytes rfl (.tmp 76) (.tmp 78) rfl rfl w8.heap.size _ _ rfl hown2 _ 1 1 [more] rfl rfl hsn (by simp [HE.out]; omega) (by simp at hz9 ⊢; omega) ?_; intro v2 w10 hown3 hg2; have hB12 := below_own hB11 hown2 hg2 hw8' (Nat.le_refl _)))
    simp only [List.nil_append] at hown3
    have hl5 : (L ++ [more]).length = len + 1 := by simp [HE.out]
    obtain ⟨A5, c5, rfl, hc5, hs12⟩ := hown3.sl
    rw [hl5] at hc5 hs12 ⊢
    have hO5 := (HL.out _ (zat_more L more)).2.2.2 (len + 1) (by omega)
    have hz5 : ∀ i, i < len + 1 → 0 ≤ (L ++ [more]).getD i 0 ∧ (L ++ [more]).getD i 0 ≤ 255 := fun i hi => by
      have hm := getD_mem (l := L ++ [more]) (d := 0) (i := i) (by omega)
      rcases List.mem_append.1 hm with h | h
      · exact HB.out.1 _ h
      · rw [List.mem_singleton.1 h]; exact ⟨hm0, hm1⟩
    refine (read_any A5 (len + 1) c5 _ hc5 (by omega) _ (ht.step hB12) hs12 hz5 len 4 hO5).mono ?_
    rintro r13 w13 ⟨v13, rfl, hv13, _, hb13⟩
    obtain rfl := hv13 (by decide)
    have hB13 := step_below hB12 hb13
    unfold zeroPg
    clear hown0 hown1 hown2 hown3 hg1 hg2 hs9 hsn hs12 hB9 hB10 hB11 hB12 hb13 hO5 hz5 hv13
    go_wp2
    go_ret
    exact ⟨rfl, hB13.alloc hB13.size _⟩
  · refine (HN.out he _ (ht.step hB2) (ha.step hB2)).mono ?_
    rintro r3 w3 ⟨rfl, hb3⟩
    have hB3 := step_below hB2 hb3
    have hne : (e != 0) = true := by rw [bne_iff_ne]; exact he
    go_wp2
    go_ret
    exact ⟨rfl, hB3⟩

theorem codeBack_met (os : Os) : laidMet Tryd.prog theLaid ((laidWorld os).forCall (fun _ _ => 0) ⟨#[], #[.agg #[.slice none 0 0, .slice none 0 0, .int .i64 0], .int .u16 0, .int .u8 0], []⟩).memory :=
  laidMet_of_run' 8 (by kernel_rfl) (by kernel_rfl)
theorem codeBack_reads (os : Os) {H : Type} (enc : TypeId × Value → H) : ∃ places, DataW.whole enc Tryd.prog ((laidWorld os).forCall (fun _ _ => 0) ⟨#[], #[.agg #[.slice none 0 0, .slice none 0 0, .int .i64 0], .int .u16 0, .int .u8 0], []⟩).memory Tryd.f9.params.toList Rows.codeBackSpec.vars false (#[.agg #[.slice none 0 0, .slice none 0 0, .int .i64 0], .int .u16 0, .int .u8 0] : Array Value).toList 8 = some ([.agg [.nil, .nil, .lit (.int .i64 0)], .lit (.int .u16 0), .lit (.int .u8 0)], [], places) :=
  ⟨[], by kernel_rfl⟩

set_option maxRecDepth 100000 in
theorem codeBack_lifted (os : Os) (started : os.Started) (H : Type) (enc : TypeId × Value → H) (F : Stop.Interp) :
    ReturnsInHanded {} Tryd.checked os 9 .any ((OpenSpec.ofChange Rows.codeBackSpec).preRow enc Tryd.prog Tryd.f9 Rows.codeBackRow.domain false Rows.codeBackRow.laid) (((OpenSpec.ofChange Rows.codeBackSpec).at F).post enc Tryd.prog Tryd.f9 false true false false) := by
  obtain ⟨places, hx⟩ := codeBack_reads os enc
  refine card_lifted started (by kernel_rfl) Tryd.func9
    (witness_row_at (enc := enc) (C := Tryd.checked) false (laidWorld os) #[.agg #[.slice none 0 0, .slice none 0 0, .int .i64 0], .int .u16 0, .int .u8 0] rfl (by kernel_rfl) (by kernel_rfl) (by kernel_rfl)
      (OpenSpec.preRow_of_cond 8 hx (by kernel_rfl) (fun k hk => by cases hk) (by kernel_rfl) (codeBack_met os)))
    4 rfl (by kernel_rfl) Tryd.underlying4 (fun ds h => ?_) (by kernel_rfl) ?_
  · rw [show Tryd.f9.params.size = 3 from by kernel_rfl] at h
    match ds, h with
    | [_, _, _], _ => rfl
  intro W base args ds p hT hval hA hlt hsz
  rw [Tryd.params9] at hA hval hsz
  obtain ⟨v0, v1, v2, d0, d1, d2, p0, p1, p2, rfl, rfl, rfl, h0, h1, h2⟩ := trodAll_three hA
  obtain ⟨q, rfl, ho, ha⟩ := open_prog (hval 0 38 v0 rfl rfl) h0
  obtain ⟨z, rfl, rfl, rfl, ws⟩ := open_int Tryd.underlying46 (hval 1 46 v1 rfl rfl) h1
  obtain ⟨y, rfl, rfl, rfl, ys⟩ := open_int Tryd.underlying5 (hval 2 5 v2 rfl rfl) h2
  have hz := bounds_u16 ws
  have hy := bounds_u8 ys
  exact codeBack_true q ho z y hz.1 hz.2 hy.1 hy.2 W hT ha

theorem codeBack_said : Rows.CodeBackSaid :=
  OpenClaim.holds_of_cond 9 Tryd.f9 rfl rfl rfl rfl rfl rfl rfl ⟨rfl, rfl, rfl, rfl, rfl⟩ rfl rfl rfl rfl rfl (by kernel_rfl) Tryd.func9 (by kernel_rfl)
    (of_decide_eq_true (by kernel_rfl)) (by unfold Func.isWrapper; first | (rw [if_pos (by decide +kernel)]; kernel_rfl) | (rw [if_neg (by decide +kernel)]; exact ⟨rfl, rfl⟩))
    (fun os started H enc _ F => by rw [OpenClaim.pre_eq_preRow]; exact codeBack_lifted os started H enc F)

theorem codeBack_plain (f : FuncId) (fn : Func) (hf : Tryd.pinned.checked.prog.funcNamed "deadlatch/deadlatchlaw03.CodeBack" = some f) (hfn : Tryd.pinned.checked.prog.funcs[f]? = some fn) :
    false = Tryd.pinned.checked.prog.looks [] ∧ ∀ (j : Nat) t, fn.params[j]? = some t → Tryd.pinned.checked.prog.wantsStandIn t = false := by
  obtain rfl : f = 9 := Option.some.inj ((show Tryd.prog.funcNamed "deadlatch/deadlatchlaw03.CodeBack" = some 9 by kernel_rfl).symm.trans hf) |>.symm
  obtain rfl : fn = Tryd.f9 := (Option.some.inj (Tryd.func9.symm.trans hfn)).symm
  refine ⟨by kernel_rfl, fun j t ht => ?_⟩
  rw [Tryd.params9] at ht
  have hm : t = 38 ∨ t = 46 ∨ t = 5 := by simpa using Array.mem_of_getElem? ht
  rcases hm with rfl | rfl | rfl
  · exact (show Tryd.prog.wantsStandIn 38 = false by kernel_rfl)
  · exact (show Tryd.prog.wantsStandIn 46 = false by kernel_rfl)
  · exact (show Tryd.prog.wantsStandIn 5 = false by kernel_rfl)

theorem codeBack_card : Rows.CodeBackCardSaid :=
  Claim7.holds_tied_plain_at .later [] _ _ _ _ codeBack_said (fun _ h => by cases h) (by kernel_rfl) (fun _ h => by cases h) codeBack_row_tie rfl ⟨rfl, rfl⟩ (by kernel_rfl) rfl codeBack_plain (by kernel_rfl)
end Go.Proofs.YtlmhifnanhkcnaaDoor
