/- CodeAgain returns true for all bytes, in a world that holds the tables: the row and the card. -/
import Derived.Test.YtlmhifnanhkcnaaDoorCodePlace
import Derived.Test.YtlmhifnanhkcnaaDoorCodeRead
import Derived.Test.YtlmhifnanhkcnaaDoorCodeSmall
import Derived.Test.YtlmhifnanhkcnaaDoorCard
namespace Go.Proofs.YtlmhifnanhkcnaaDoor
open Go.ChangeShapes Go.WideShapes Go.ChangeAt Go.RowKit Go.Deep
set_option linter.unusedVariables false
set_option linter.unusedSimpArgs false

theorem chk_zero {p : Pg} {t j : Int} (h : Chk p t j 0) : Chk p 0 0 0 := by
  have he : (0 : Int) = 0 := rfl
  generalize hq : (0 : Int) = e at h
  cases h with
  | args h => exact absurd hq (by decide)
  | mem a1 a2 a3 a4 h => exact absurd hq (by decide)
  | long t a1 a2 a3 a4 a5 ht' hg hl => exact absurd hq (by decide)
  | form t j a1 a2 a3 a4 a5 ht' hg hl hj hi hb => exact absurd hq (by decide)
  | fine a1 a2 a3 a4 a5 hg => exact .fine a1 a2 a3 a4 a5 hg

/-- Bytes that are read as a program are that program's bytes. -/
theorem rd_again {Z : Nat → Int} {len : Nat} {n : Int} {p : Pg} (hz : ∀ i, i < len → 0 ≤ Z i ∧ Z i ≤ 255) (hO : RdO Z len n 0) (hr : Rep p (rdP Z len)) : Chk p 0 0 0 ∧ 7 ≤ len ∧ wrB p = (List.range len).map Z := by
  generalize hq : (0 : Int) = e at hO
  cases hO with
  | tiny h => exact absurd hq (by decide)
  | head h _ => exact absurd hq (by decide)
  | short h _ _ => exact absurd hq (by decide)
  | long h _ _ _ => exact absurd hq (by decide)
  | form t j e h3 hh hs hl hc =>
    subst hq
    have hend : endZ Z ≤ len := by
      rcases Nat.lt_or_ge len (endZ Z) with h | h
      · have := st4_no h3 h
        rw [hs] at this
        cases this
      · exact h
    obtain ⟨e4, hrp⟩ := st4_ok hend
    rw [e4] at hl
    have heq : endZ Z = len := by
      have : len ≤ endZ Z := hl
      omega
    have h7 := endZ_ge (Z := Z)
    refine ⟨chk_zero (chk_rep hr.symm hc), by omega, ?_⟩
    rw [wrB_rep (hr.trans hrp)]
    have hat := wr_of (Z := Z) (fun i hi => hz i (by omega)) hh
    have hlen := wrB_len_pgZ (Z := Z)
    apply List.ext_getElem
    · rw [hlen, heq]; simp
    · intro i h1 h2
      have := hat i h1
      rw [Nat.zero_add, List.getD_eq_getElem?_getD, List.getElem?_eq_getElem h1] at this
      rw [List.getElem_map, List.getElem_range, this]
      rfl

theorem codeAgain_long (A : Option Addr) (len cap : Nat) (w : World) (hl : 16000 < len) (hm : len ≤ maxLen) :
    Calls Tryd.prog 10 #[.slice A len cap] w fun e w' => e = .returned (.bool true) ∧ Below w.heap.size w w' := by
  unfold maxLen at hm
  go_enter Tryd.func10, Tryd.ntmps10
  have hl' : (16000 : Int) < (len : Int) := by omega
  go_wp2_with fail
  refine (awake_any _).mono ?_
  rintro e w0 ⟨rfl, hb0⟩
  go_wp2_with fail
  refine (awake_any _).mono ?_
  rintro e w1 ⟨rfl, hb1⟩
  go_wp2
  go_ret
  exact ⟨rfl, step_below hb0 hb1⟩

set_option maxHeartbeats 2000000 in
theorem codeAgain_true (A : Option Addr) (len cap : Nat) (Z : Nat → Int) (hlc : len ≤ cap) (hl : len ≤ 16000) (w : World) (ht : Tab w) (hsl : Sl w A len (fun i => .int .u8 (Z i))) (hz : ∀ i, i < len → 0 ≤ Z i ∧ Z i ≤ 255) :
    Calls Tryd.prog 10 #[.slice A len cap] w fun e w' => e = .returned (.bool true) ∧ Below w.heap.size w w' := by
  obtain ⟨n, e, hO⟩ := rdO_some Z len
  have hl' : ¬ (16000 : Int) < (len : Int) := by omega
  go_enter Tryd.func10, Tryd.ntmps10
  go_wp2_with fail
  refine (awake_any _).mono ?_
  rintro e1 w1 ⟨rfl, hb1⟩
  go_wp2_with fail
  refine (read_any A len cap Z hlc (by omega) _ (ht.step hb1) (hsl.step hb1) hz n e hO).mono ?_
  rintro e2 w2 ⟨v, rfl, hv0, hv1, hb2⟩
  have hB2 := step_below hb1 hb2
  have ht2 := ht.step hB2
  have hs2 := hsl.step hB2
  clear hb1 hb2 ht hsl
  by_cases he : e = 0
  · subst he
    obtain ⟨p, rfl, hrep, hok, hat⟩ := hv1 rfl
    obtain ⟨hC, h7, hwr⟩ := rd_again hz hO hrep
    have cY := write_yes p hok hC
    have hM : ((List.range len).map Z).length = len := by simp
    have hwr' := hwr
    clear hv0 hv1 hO hrep hwr hC
    obtain ⟨PA, pn, pcap, pcd, pmA, pm, pmcap, pZ, proom⟩ := p
    have hq := Blk.new w2 38 #[.slice PA pn pcap, .slice pmA pm pmcap, .int .i64 proom]
    have hB3 := hB2.alloc hB2.size (Obj.cells #[.slice PA pn pcap, .slice pmA pm pmcap, .int .i64 proom] 38)
    have hat3 := hat.alloc (Obj.cells #[.slice PA pn pcap, .slice pmA pm pmcap, .int .i64 proom] 38)
    unfold Pg.val at cY ⊢
    dsimp only at cY ⊢
    rw [hwr'] at cY
    have q0 := hq.cell 0
    have q1 := hq.cell 1
    have q2 := hq.cell 2
    simp only [List.getElem?_toArray, List.getElem?_cons_zero, List.getElem?_cons_succ] at q0 q1 q2
    have HY := Lib.hid cY
    have HT := Lib.hid (And.intro (ht2.step ((Below.refl _ w2).alloc (Nat.le_refl _) (Obj.cells #[.slice PA pn pcap, .slice pmA pm pmcap, .int .i64 proom] 38))) hat3)
    have hs3 := hs2.step ((Below.refl _ w2).alloc (Nat.le_refl _) (Obj.cells #[.slice PA pn pcap, .slice pmA pm pmcap, .int .i64 proom] 38))
    clear cY hat hat3 hok hwr' ht2 hs2 hB2
    go_wp2_with fail
    refine (HY.out _ HT.out.1 HT.out.2).mono ?_
    rintro e3 w3 ⟨v3, rfl, hown, hb3⟩
    obtain ⟨A3, c3, rfl, hc3, hs4⟩ := hown.sl
    have hB4 := step_below hB3 hb3
    have hc1 := conv_sl (cap := c3) rfl (by rw [hM]; omega) hs4
    have hc2 := conv_sl (L := (List.range len).map Z) (n := len) (cap := cap) hM (by omega) ((hs3.step hb3).congr fun i hi => by rw [getD_map_range _ _ _ _ hi])
    rw [hM] at hc1
    clear hown hs4 hs3 q0 q1 q2 hq hb3 hB3
    go_wp2_with fail
    go_ret
    exact ⟨by simp, hB4⟩
  · obtain rfl := hv0 he
    have hne : (e != 0) = true := by rw [bne_iff_ne]; exact he
    unfold zeroPg
    go_wp2
    go_ret
    exact ⟨rfl, hB2.alloc hB2.size _⟩

theorem codeAgain_met (os : Os) : laidMet Tryd.prog theLaid ((laidWorld os).forCall (fun _ _ => 0) ⟨#[], #[.slice none 0 0], []⟩).memory :=
  laidMet_of_run' 8 (by kernel_rfl) (by kernel_rfl)
theorem codeAgain_reads (os : Os) {H : Type} (enc : TypeId × Value → H) : ∃ places, DataW.whole enc Tryd.prog ((laidWorld os).forCall (fun _ _ => 0) ⟨#[], #[.slice none 0 0], []⟩).memory Tryd.f10.params.toList Rows.codeAgainSpec.vars false (#[.slice none 0 0] : Array Value).toList 8 = some ([.nil], [], places) :=
  ⟨[], by kernel_rfl⟩

set_option maxRecDepth 100000 in
theorem codeAgain_lifted (os : Os) (started : os.Started) (H : Type) (enc : TypeId × Value → H) (F : Stop.Interp) :
    ReturnsInHanded {} Tryd.checked os 10 .any ((OpenSpec.ofChange Rows.codeAgainSpec).preRow enc Tryd.prog Tryd.f10 Rows.codeAgainRow.domain false Rows.codeAgainRow.laid) (((OpenSpec.ofChange Rows.codeAgainSpec).at F).post enc Tryd.prog Tryd.f10 false true false false) := by
  obtain ⟨places, hx⟩ := codeAgain_reads os enc
  refine card_lifted started (by kernel_rfl) Tryd.func10
    (witness_row_at (enc := enc) (C := Tryd.checked) false (laidWorld os) #[.slice none 0 0] rfl (by kernel_rfl) (by kernel_rfl) (by kernel_rfl)
      (OpenSpec.preRow_of_cond 8 hx (by kernel_rfl) (fun k hk => by cases hk) (by kernel_rfl) (codeAgain_met os)))
    4 rfl (by kernel_rfl) Tryd.underlying4 (fun ds h => ?_) (by kernel_rfl) ?_
  · rw [show Tryd.f10.params.size = 1 from by kernel_rfl] at h
    match ds, h with
    | [_], _ => rfl
  intro W base args ds p hT hval hA hlt hsz
  rw [Tryd.params10] at hA hval hsz
  obtain ⟨v0, d0, rfl, rfl, h0⟩ := trodAll_one hA
  obtain ⟨A, len, cap, Z, rfl, hlc, hcm, hsl, hwz⟩ := open_sl_ints Tryd.underlying50 Tryd.underlying5 (by kernel_rfl) (hval 0 50 v0 rfl rfl) h0 hlt
  by_cases h : len ≤ 16000
  · exact codeAgain_true A len cap Z hlc h W hT hsl (fun i hi => bounds_u8 (hwz i hi))
  · exact codeAgain_long A len cap W (by omega) (by omega)

theorem codeAgain_said : Rows.CodeAgainSaid :=
  OpenClaim.holds_of_cond 10 Tryd.f10 rfl rfl rfl rfl rfl rfl rfl ⟨rfl, rfl, rfl, rfl, rfl⟩ rfl rfl rfl rfl rfl (by kernel_rfl) Tryd.func10 (by kernel_rfl)
    (of_decide_eq_true (by kernel_rfl)) (by unfold Func.isWrapper; first | (rw [if_pos (by decide +kernel)]; kernel_rfl) | (rw [if_neg (by decide +kernel)]; exact ⟨rfl, rfl⟩))
    (fun os started H enc _ F => by rw [OpenClaim.pre_eq_preRow]; exact codeAgain_lifted os started H enc F)

theorem codeAgain_plain (f : FuncId) (fn : Func) (hf : Tryd.pinned.checked.prog.funcNamed "deadlatch/deadlatchlaw03.CodeAgain" = some f) (hfn : Tryd.pinned.checked.prog.funcs[f]? = some fn) :
    false = Tryd.pinned.checked.prog.looks [] ∧ ∀ (j : Nat) t, fn.params[j]? = some t → Tryd.pinned.checked.prog.wantsStandIn t = false := by
  obtain rfl : f = 10 := Option.some.inj ((show Tryd.prog.funcNamed "deadlatch/deadlatchlaw03.CodeAgain" = some 10 by kernel_rfl).symm.trans hf) |>.symm
  obtain rfl : fn = Tryd.f10 := (Option.some.inj (Tryd.func10.symm.trans hfn)).symm
  refine ⟨by kernel_rfl, fun j t ht => ?_⟩
  rw [Tryd.params10] at ht
  have hm : t = 50 := by simpa using Array.mem_of_getElem? ht
  rcases hm with rfl
  · exact (show Tryd.prog.wantsStandIn 50 = false by kernel_rfl)

theorem codeAgain_card : Rows.CodeAgainCardSaid :=
  Claim7.holds_tied_plain_at .later [] _ _ _ _ codeAgain_said (fun _ h => by cases h) (by kernel_rfl) (fun _ h => by cases h) codeAgain_row_tie rfl ⟨rfl, rfl⟩ (by kernel_rfl) rfl codeAgain_plain (by kernel_rfl)
end Go.Proofs.YtlmhifnanhkcnaaDoor
