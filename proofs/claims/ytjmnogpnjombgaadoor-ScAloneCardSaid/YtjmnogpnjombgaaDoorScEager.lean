/- ScEager. -/
import Derived.Test.YtjmnogpnjombgaaDoorMirP
import Derived.Test.YtjmnogpnjombgaaDoorTwoM
import Derived.Test.YtjmnogpnjombgaaDoorTsBuf
import Derived.Test.YtjmnogpnjombgaaDoorMAll
import Derived.Test.YtjmnogpnjombgaaDoorThEql
import Derived.Test.YtjmnogpnjombgaaDoorScAwake
import Derived.Test.YtjmnogpnjombgaaDoorTsTz
import Derived.Deep.QuietTactic
import Derived.BigQuiet
namespace Go.Proofs.YtjmnogpnjombgaaDoor
open Go.ChangeShapes Go.WideShapes Go.ChangeAt Go.RowKit Go.Deep
set_option linter.unusedVariables false
set_option maxRecDepth 100000
set_option linter.unusedSimpArgs false

/-- What is known of both machines between picks, with room for so many picks more. -/
structure EagP (C B : MB) (nt : Nat) (m : Nat) (s u : Mst) : Prop where
  eq : EQ B s u
  so : MOk C s
  uo : TOk B u
  sc : mCan C (3 * m + 3) s
  uc : mCan B (3 * m + 3) u
  len : s.ths.length = nt
  ml : s.mem.length = C.m
/-- .. while one of them flushes. -/
structure EagF (C B : MB) (nt : Nat) (m t : Nat) (s u : Mst) : Prop where
  vr : VR B t s u
  so : MOk C s
  uo : TOk B u
  sc : mCan C (3 * m + 3) s
  uc : mCan B (3 * m + 3) u
  len : s.ths.length = nt
  ml : s.mem.length = C.m
  tn : t < nt
theorem sPick_mlen {C : MB} {s : Mst} (x : Int × Int) : (sPick C s x).mem.length = s.mem.length := by
  have hst : ∀ (s : Mst) (th : Th) (c : Cd), (stepR (sOps C) s th c).2.mem.length = s.mem.length := by
    intro s th c
    have hs : ∀ (r : Mst) (a : Nat), (sleepM r.who r a).mem.length = r.mem.length := fun r a => by unfold sleepM; split <;> rfl
    unfold stepR
    split
    · rfl
    split
    · rfl
    split
    · rfl
    split
    · rfl
    unfold insR
    split
    · rfl
    split
    · rfl
    split
    · rfl
    split
    · rfl
    split
    · show (asksR (sOps C) s th _ _ _ _).2.mem.length = _
      unfold asksR
      have hl : ∀ (pc : Int) (m : Nat) (old v : Int) (ok : Bool), (lockS (sOps C) s pc m old v ok).mem.length = s.mem.length := fun pc m old v ok => by
        unfold lockS
        cases ok
        · rfl
        · show (s.mem.set m v).length = _
          rw [List.length_set]
      split
      · rfl
      split
      · show (s.mem.set _ _).length = _
        rw [List.length_set]
      split
      · exact hl _ _ _ _ _
      split
      · exact hl _ _ _ _ _
      split
      · exact hl _ _ _ _ _
      split
      · unfold waitR
        split
        · exact hs _ _
        · rfl
      · rfl
    · show (plainR (sOps C) s th _ _ _ _ _ _).2.mem.length = _
      unfold plainR
      repeat' split
      all_goals rfl
  unfold sPick
  split
  · rfl
  split
  · unfold sStep
    exact hst _ _ _
  split
  · unfold rouseM
    split <;> rfl
  · rfl
theorem sPick_len {C : MB} (hC : MBok C) {s : Mst} (h : MOk C s) (x : Int × Int) : (sPick C s x).ths.length = s.ths.length := by
  rw [(sPick_ok hC h x).nt, h.nt]
theorem EagP.pick {C B : MB} (hM : MirB C B) (hC : MBok C) (hB : MBok B) {nt m : Nat} {s u : Mst} (h : EagP C B nt (m + 1) s u) (x : Int × Int) (h0 : 0 ≤ x.2) (h1 : x.2 < (nt : Int)) : EagF C B nt m x.2.toNat (sPick C s x) (tPick B u x) where
  vr := h.eq.pick hM hC h.so.nt x h0 (by rw [← h.eq.ths, h.len]; exact h1)
  so := sPick_ok hC h.so x
  uo := tPick_ok hB h.uo x
  sc := sPick_can (by have := h.sc; rw [show 3 * (m + 1) + 3 = (3 * m + 3) + 3 by omega] at this; exact this) x
  uc := tPick_can hM.r16 (by have := h.uc; rw [show 3 * (m + 1) + 3 = (3 * m + 3) + 3 by omega] at this; exact this) (by rw [h.eq.bl]) x
  len := by rw [sPick_len hC h.so]; exact h.len
  ml := by rw [sPick_mlen]; exact h.ml
  tn := by omega
theorem EagP.out {C B : MB} {nt m : Nat} {s u : Mst} (h : EagP C B nt (m + 1) s u) (x : Int × Int) (hx : x.2 < 0 ∨ (nt : Int) ≤ x.2) : sPick C s x = s ∧ tPick B u x = u ∧ EagP C B nt m s u := by
  obtain ⟨e1, e2⟩ := h.eq.out (C := C) x (by rw [← h.eq.ths, h.len]; exact hx)
  refine ⟨e1, e2, h.eq, h.so, h.uo, ?_, ?_, h.len, h.ml⟩
  · have := h.sc
    exact ⟨by have := this.evs; omega, by have := this.slp; omega, this.who, this.buf, this.t8⟩
  · have := h.uc
    exact ⟨by have := this.evs; omega, by have := this.slp; omega, this.who, this.buf, this.t8⟩
theorem EagF.flush {C B : MB} {nt m t : Nat} {s u : Mst} (h : EagF C B nt m t s u) : EagF C B nt m t s (tflush t u) :=
  ⟨h.vr.flush, h.so, h.uo.flush t, h.sc, h.uc.flush t, h.len, h.ml, h.tn⟩
theorem EagF.done {C B : MB} {nt m t : Nat} {s u : Mst} (h : EagF C B nt m t s u) (hn : B.codes.length = nt) (hb : (u.bufs.getD t []).length = 0) : EagP C B nt m s u :=
  ⟨h.vr.eq (List.length_eq_zero_iff.1 hb) (by rw [h.uo.bl, hn, ← h.vr.ths, h.len]), h.so, h.uo, h.sc, h.uc, h.len, h.ml⟩
theorem EagF.flushPick {C B : MB} {nt m t : Nat} {s u : Mst} (h : EagF C B nt m t s u) : tPick B u (1, (t : Int)) = tflush t u := by
  unfold tPick
  rw [if_neg (by show ¬ ((t : Int) < 0 ∨ (u.ths.length : Int) ≤ (t : Int)); rw [← h.vr.ths, h.len]; have := h.tn; omega), if_neg (by show ¬ (1 : Int) = 0; decide), if_pos rfl]
  show tflush (t : Int).toNat u = _
  rw [Int.toNat_natCast]
theorem flush_less {t : Nat} {u : Mst} (ht : t < u.bufs.length) (hb : (u.bufs.getD t []).length ≠ 0) : ((tflush t u).bufs.getD t []).length + 1 = (u.bufs.getD t []).length := by
  cases hq : u.bufs.getD t [] with
  | nil => rw [hq] at hb; exact absurd rfl hb
  | cons x l =>
    rw [tflush_cons hq]
    show ((u.bufs.set t l).getD t []).length + 1 = _
    rw [getD_setE _ _ _ _ ht, List.length_cons]

set_option maxHeartbeats 8000000 in
theorem scEager_true (p : Pg) (ho : p.Ok) (A : Option Addr) (n cap : Nat) (F : Nat → Int × Int) (w : World) (hT : Tab w) (ha : p.At w) (hs : SlE w A n 2 (fun i => pkc (F i))) (hnm : n ≤ 9223372036854775807) :
    Calls Tryd.prog 12 #[p.val, .slice A n cap] w fun e w' => e = .returned (.bool true) ∧ Below w.heap.size w w' := by
  have hN := hT.1
  have hal := (Below.refl w.heap.size w).alloc (Nat.le_refl _) (.cells #[.slice p.A p.n p.cap, .slice p.mA p.m p.mcap, .int .i64 p.room] 63)
  have hq := Blk.new w 63 #[.slice p.A p.n p.cap, .slice p.mA p.m p.mcap, .int .i64 p.room]
  have cA := awake_any _ (hT.step hal)
  obtain ⟨pb, hpb⟩ : ∃ pb, w.heap.size = pb := ⟨_, rfl⟩
  rw [hpb] at hq
  have HPB := Lib.hid hpb
  have HH := Lib.hid (And.intro hal (And.intro hq (And.intro hT (And.intro ha (And.intro hs ho)))))
  unfold Pg.val
  clear hal hq hT ha hs ho
  go_enter Tryd.func12, Tryd.ntmps12
  go_wp2_with fail
  try rw [hpb]
  clear hpb
  with_reducible refine cA.mono ?_
  rintro e W1 ⟨rfl, hB1⟩
  have hq1 := HH.out.2.1.below hB1 HH.out.2.1.lt
  have hBw1 := step_below HH.out.1 hB1
  have cF := few_any 400 (by decide) p HH.out.2.2.2.2.2 W1 (HH.out.2.2.2.1.step hBw1)
  unfold Pg.val at cF
  rw [show ((400 : Nat) : Int) = 400 from rfl] at cF
  have HB1 := Lib.hid hBw1
  clear cA hB1 hBw1
  go_wp2_with (refine wpList_load_rowG (by rfl) 63 (.tmp 2) rfl _ rfl 63 #[.slice p.A p.n p.cap, .slice p.mA p.m p.mcap, .int .i64 p.room] (0, 0) _ hq1 Tryd.underlying63 rfl pgz_info ?_)
  with_reducible refine cF.mono ?_
  rintro e W2 ⟨⟨r, rfl⟩, hB2⟩
  have hq2 := hq1.below hB2 hq1.lt
  have HB2 := Lib.hid (step_below HB1.out hB2)
  clear cF hB2 hq1
  by_cases hsm : r = true ∧ n ≤ 600
  case neg =>
    have cA := awake_any W2 (HH.out.2.2.1.step HB2.out)
    rcases Decidable.em (r = true) with hr | hr
    case' inl =>
      subst hr
      have hn6 : (600 : Int) < (n : Int) := by
        have : ¬ n ≤ 600 := fun h => hsm ⟨rfl, h⟩
        omega
    case' inr =>
      obtain rfl : r = false := by simpa using hr
    all_goals
      clear hsm hq2
      try clear hr
      go_wp2_with fail
      with_reducible refine cA.mono ?_
      rintro e W3 ⟨rfl, hB3⟩
      have HB3 := Lib.hid (step_below HB2.out hB3)
      clear cA hB3
      go_wp2
      go_ret
      exact ⟨rfl, HB3.out⟩
  case pos =>
    obtain ⟨rfl, hn6⟩ := hsm
    have hn6' : ¬ (600 : Int) < (n : Int) := by omega
    obtain ⟨tt, jj, ee, hchk⟩ := chk_some p
    by_cases hee : ee = 0
    case neg =>
      have cN := scNew_bad p HH.out.2.2.2.2.2 tt jj ee hchk hee W2 (HH.out.2.2.1.step HB2.out) (HH.out.2.2.2.1.step HB2.out)
      unfold Pg.val at cN
      have hee' : (ee != 0) = true := by simpa using hee
      have HC := Lib.hid (And.intro hchk hee)
      clear hchk hee
      go_wp2_with (refine wpList_load_row rfl 63 (.tmp 2) rfl _ rfl 63 #[.slice p.A p.n p.cap, .slice p.mA p.m p.mcap, .int .i64 p.room] (0, 0) _ hq2 Tryd.underlying63 rfl pgz_info ?_)
      with_reducible refine cN.mono ?_
      rintro e W3 ⟨rfl, hB3⟩
      have HB3 := Lib.hid (step_below HB2.out hB3)
      have hq3 := hq2.below hB3 hq2.lt
      have cN := tsoNew_bad p HH.out.2.2.2.2.2 tt jj ee HC.out.1 HC.out.2 W3 (HH.out.2.2.1.step HB3.out) (HH.out.2.2.2.1.step HB3.out)
      unfold Pg.val at cN
      clear hB3 hq2
      go_wp2_with (refine wpList_load_row rfl 63 (.tmp 2) rfl _ rfl 63 #[.slice p.A p.n p.cap, .slice p.mA p.m p.mcap, .int .i64 p.room] (0, 0) _ hq3 Tryd.underlying63 rfl pgz_info ?_)
      with_reducible refine cN.mono ?_
      rintro e W4 ⟨rfl, hB4⟩
      have HB4 := Lib.hid (step_below HB3.out hB4)
      clear cN hB4 hq3
      go_wp2
      go_ret
      exact ⟨rfl, HB4.out⟩
    case pos =>
      subst hee
      have hsmall := hchk.small
      have cN := scNew_ok p HH.out.2.2.2.2.2 tt jj hchk W2 (HH.out.2.2.1.step HB2.out) (HH.out.2.2.2.1.step HB2.out)
      unfold Pg.val at cN
      have HC := Lib.hid (And.intro hchk hsmall)
      clear hchk hsmall
      go_wp2_with (refine wpList_load_row rfl 63 (.tmp 2) rfl _ rfl 63 #[.slice p.A p.n p.cap, .slice p.mA p.m p.mcap, .int .i64 p.room] (0, 0) _ hq2 Tryd.underlying63 rfl pgz_info ?_)
      with_reducible refine cN.mono ?_
      rintro e W3 ⟨C, rfl, hNM, hI, hB3⟩
      have hq3 := hq2.below hB3 hq2.lt
      have hBw3 := step_below HB2.out hB3
      have H3 := Lib.hid (And.intro hNM (And.intro hI (And.intro hB3 hBw3)))
      have cN := tsoNew_ok p HH.out.2.2.2.2.2 tt jj HC.out.1 W3 (HH.out.2.2.1.step hBw3) (HH.out.2.2.2.1.step hBw3)
      unfold Pg.val at cN
      clear hNM hI hB3 hq2 hBw3
      go_wp2_with (refine wpList_load_row rfl 63 (.tmp 2) rfl _ rfl 63 #[.slice p.A p.n p.cap, .slice p.mA p.m p.mcap, .int .i64 p.room] (0, 0) _ hq3 Tryd.underlying63 rfl pgz_info ?_)
      with_reducible refine cN.mono ?_
      rintro e W4 ⟨B, rfl, hNM4, hro, hI4, hB4⟩
      have hBw4 := step_below H3.out.2.2.2 hB4
      have hTM : TwoM scL tsoL C B (s0 p) (t0 p) w.heap.size w W4 := TwoM.make H3.out.2.1 hI4 (Nat.le_refl _) hB4 hBw4 HB2.out.size H3.out.2.2.1.size
      have hMB : MBok B := newM_ok hNM4 HC.out.2.2.1 HC.out.2.2.2.1
      have hMC : MBok C := newM_ok H3.out.1 HC.out.2.2.1 HC.out.2.2.2.1
      have hMir : MirB C B := mirB_of H3.out.1 hNM4 (by rw [hro]; exact HC.out.2.2.2.2.1) (by rw [hro]; exact HC.out.2.2.2.2.2.1)
      have hE : EagP C B p.n n (s0 p) (t0 p) :=
        ⟨⟨rfl, rfl, rfl, fun i => by
            show (List.replicate p.n ([] : List Ent)).getD i [] = []
            rw [List.getD_eq_getElem?_getD, List.getElem?_replicate]
            split <;> rfl, by show (List.replicate p.n _).length = (List.replicate p.n _).length; rw [List.length_replicate, List.length_replicate], by show ((List.range p.m).map p.Z).length = B.m; rw [List.length_map, List.length_range]; exact hNM4.m.symm⟩,
          s0_ok HH.out.2.2.2.2.2 H3.out.1, t0_ok HH.out.2.2.2.2.2 hNM4, s0_can HC.out.2.2.1 _ (by omega), t0_can HC.out.2.2.1 _ (by omega), by show (List.replicate p.n _).length = p.n; rw [List.length_replicate], by show ((List.range p.m).map p.Z).length = C.m; rw [List.length_map, List.length_range]; exact H3.out.1.m.symm⟩
      have HE := Lib.hid (And.intro hTM hE)
      have HM := Lib.hid (And.intro hMB (And.intro hMC (And.intro hMir (And.intro hNM4.n (And.intro HC.out.2.2.1 (And.intro HC.out.2.2.2.1 (And.intro hNM4.m (sle_old HH.out.2.2.2.2.1))))))))
      clear hNM4 hro hI4 hB4 hBw4 hTM hMB hMC hMir hE cN hq3
      go_wp2
      go_loopw [9] (fun i wr => ∃ (k : Nat) (s u : Mst), k ≤ n ∧ i = .int .i64 (k : Int) ∧ Hid (EagP C B p.n (n - k) s u) ∧ Hid (TwoM scL tsoL C B s u w.heap.size w wr)) (fun i _ => n - (intOf i).toNat)
      case atStart => exact ⟨0, s0 p, t0 p, Nat.zero_le _, rfl, Lib.hid HE.out.2, Lib.hid HE.out.1⟩
      case round =>
        obtain ⟨k, s, u, hk, rfl, HP, HT⟩ := hrel
        by_cases hkn : k < n
        · have hk0 : (0 : Int) ≤ (k : Int) := by omega
          have hk1 : (k : Int) < (n : Int) := by omega
          obtain ⟨b, off, hbo, hlt, hcc⟩ := HH.out.2.2.2.2.1 (by omega)
          rw [hbo]
          obtain ⟨x, hx⟩ : ∃ x, F k = x := ⟨_, rfl⟩
          have k0 := hcc k hkn 0 (.int .i64 (F k).1) rfl
          have k1 := hcc k hkn 1 (.int .i64 (F k).2) rfl
          rw [hx] at k0 k1
          rw [Nat.add_zero] at k0
          have HCW := Lib.hid (And.intro hlt (And.intro k0 k1))
          replace k0 := keepAt HT.out.bel hlt k0
          replace k1 := keepAt HT.out.bel hlt k1
          obtain ⟨m, hm⟩ : ∃ m, n - k = m + 1 := ⟨n - k - 1, by omega⟩
          have HP' := HP.out
          rw [hm] at HP'
          have cS : Calls Tryd.prog 23 #[.pointer (some ⟨C.mb, 0, none⟩), .agg #[.int .i64 x.1, .int .i64 x.2]] wr fun e W' => (∃ v, e = .returned v) ∧ TwoM scL tsoL C B (sPick C s x) u w.heap.size w W' :=
            HT.out.calls (R := fun e => ∃ v, e = .returned v) (fun oa h _ => spick_any C HM.out.2.1 s HP'.so (by have := HP'.sc; exact ⟨by have := this.evs; omega, by have := this.slp; omega, this.who, this.buf, this.t8⟩) oa wr h (HH.out.2.2.1.step HT.out.bel) x)
          have HP2 := Lib.hid HP'
          have HX := Lib.hid hm
          clear hcc HP' hx hbo hlt
          go_upto_region 10 with fail
          go_wp2_with fail
          with_reducible refine cS.mono ?_
          rintro e W5 ⟨⟨v5, rfl⟩, hT5⟩
          have q0 := keepAt hT5.bel HCW.out.1 HCW.out.2.1
          have q1 := keepAt hT5.bel HCW.out.1 HCW.out.2.2
          have cP : Calls Tryd.prog 36 #[.pointer (some ⟨B.mb, 0, none⟩), .agg #[.int .i64 x.1, .int .i64 x.2]] W5 fun e W' => (∃ v, e = .returned v) ∧ TwoM tsoL scL B C (tPick B u x) (sPick C s x) w.heap.size w W' :=
            hT5.swap.calls (R := fun e => ∃ v, e = .returned v) (fun oa h _ => tpick_any B HM.out.1 HM.out.2.2.1.r16 u HP2.out.uo (by have := HP2.out.uc; exact ⟨by have := this.evs; omega, by have := this.slp; omega, this.who, this.buf, this.t8⟩) oa W5 h (HH.out.2.2.1.step hT5.bel) x)
          have HB5 := Lib.hid hT5.bel
          clear cS hT5 k0 k1
          go_wp2_with fail
          with_reducible refine cP.mono ?_
          rintro e W6 ⟨⟨v6, rfl⟩, hT6⟩
          have H6 := Lib.hid hT6.swap
          clear cP hT6 q0 q1
          by_cases hin : 0 ≤ x.2 ∧ x.2 < (p.n : Int)
          · obtain ⟨k9, xw⟩ := x
            dsimp only at hin
            obtain ⟨t, rfl⟩ : ∃ t : Nat, xw = (t : Int) := ⟨xw.toNat, by omega⟩
            have hF := HP2.out.pick HM.out.2.2.1 HM.out.2.1 HM.out.1 (k9, (t : Int)) hin.1 hin.2
            dsimp only at hF
            rw [Int.toNat_natCast] at hF
            have hT7 := H6.out
            generalize sPick C s (k9, (t : Int)) = s2 at hF hT7
            generalize tPick B u (k9, (t : Int)) = u2 at hF hT7
            have HF := Lib.hid hF
            have HT7 := Lib.hid hT7
            clear hF hT7 H6
            go_wp2
            obtain ⟨wo, hwo⟩ : ∃ wo : World, wo = wr := ⟨_, rfl⟩
            clear hwo
            go_loopw [10] (fun j wr => ∃ (m2 : Nat) (u3 : Mst), j = .int .i64 (m2 : Int) ∧ Hid (EagF C B p.n m t s2 u3) ∧ Hid (TwoM scL tsoL C B s2 u3 w.heap.size w wr) ∧ Hid (m2 + (u3.bufs.getD t []).length ≤ 16)) (fun j _ => 20 - (intOf j).toNat)
            case atStart => exact ⟨0, u2, rfl, HF, HT7, Lib.hid (by
              obtain ⟨oa, ob, _, h2, _⟩ := HT7.out.ex
              have := tbuf_le h2 (t := t) (by rw [HF.out.uo.bl, HM.out.2.2.2.1]; exact HF.out.tn)
              omega)⟩
            case round =>
              obtain ⟨m2, u3, rfl, HF3, HT3, HL3⟩ := hrel
              have htb : t < u3.bufs.length := by rw [HF3.out.uo.bl, HM.out.2.2.2.1]; exact HF3.out.tn
              obtain ⟨bn, hbn⟩ : ∃ bn, (u3.bufs.getD t []).length = bn := ⟨_, rfl⟩
              have hl3 := HL3.out
              rw [hbn] at hl3
              have hm20 : (m2 : Int) < 20 := by omega
              have cB : Calls Tryd.prog 39 #[.pointer (some ⟨B.mb, 0, none⟩), .int .i64 (t : Int)] wr fun e W' => (∃ A cap, e = .returned (.slice A bn cap)) ∧ Below wr.heap.size wr W' :=
                HT3.out.swap.tells (R := fun e _ => ∃ A cap, e = .returned (.slice A bn cap)) (fun ob h => (tbuffer_any B u3 ob wr h t htb bn hbn).mono fun e W' ⟨A, cap, h1, h2⟩ => ⟨⟨A, cap, h1⟩, h2⟩)
              have r1 := keepAt HT3.out.bel HCW.out.1 HCW.out.2.2
              try dsimp only at r1
              have HBN := Lib.hid (And.intro hbn htb)
              have HLN := Lib.hid hl3
              clear hbn htb hl3
              go_wp2_with fail
              with_reducible refine cB.mono ?_
              rintro e W8 ⟨⟨bA, bc, rfl⟩, hb8⟩
              have HT8 := Lib.hid (HT3.out.below hb8)
              have r2 := keepAt HT8.out.bel HCW.out.1 HCW.out.2.2
              try dsimp only at r2
              clear cB hb8 r1
              by_cases hz : bn = 0
              · subst hz
                clear r2
                go_wp2
                go_roundw
                case rel =>
                  have hd := HF3.out.done HM.out.2.2.2.1 HBN.out.1
                  exact ⟨k + 1, s2, u3, by omega, by go_num, Lib.hid (by rw [show n - (k + 1) = m from by have := HX.out; omega]; exact hd), HT8⟩
                case measure => simp [intOf]; omega
              · have hz' : (0 : Int) < (bn : Int) := by omega
                have cF : Calls Tryd.prog 36 #[.pointer (some ⟨B.mb, 0, none⟩), .agg #[.int .i64 1, .int .i64 (t : Int)]] W8 fun e W' => (∃ v, e = .returned v) ∧ TwoM tsoL scL B C (tflush t u3) s2 w.heap.size w W' :=
                  HT8.out.swap.calls (R := fun e => ∃ v, e = .returned v) (fun oa h _ => by
                    have := tpick_any B HM.out.1 HM.out.2.2.1.r16 u3 HF3.out.uo (by have := HF3.out.uc; exact ⟨by have := this.evs; omega, by have := this.slp; omega, this.who, this.buf, this.t8⟩) oa W8 h (HH.out.2.2.1.step HT8.out.bel) (1, (t : Int))
                    rw [HF3.out.flushPick] at this
                    exact this)
                go_wp2_with fail
                with_reducible refine cF.mono ?_
                rintro e W9 ⟨⟨v9, rfl⟩, hT9⟩
                have HT9 := Lib.hid hT9.swap
                clear cF hT9 r2
                go_wp2
                go_roundw
                case rel =>
                  refine ⟨m2 + 1, tflush t u3, by go_num, Lib.hid HF3.out.flush, HT9, Lib.hid ?_⟩
                  have h1 := flush_less HBN.out.2 (by rw [HBN.out.1]; exact hz)
                  rw [HBN.out.1] at h1
                  have := HLN.out
                  omega
                case measure => simp [intOf]; omega
          · have ho : x.2 < 0 ∨ (p.n : Int) ≤ x.2 := by omega
            obtain ⟨e1, e2, hP⟩ := HP2.out.out x ho
            have hT7 := H6.out
            rw [e1, e2] at hT7
            have HT7 := Lib.hid (And.intro hT7 hP)
            have HO := Lib.hid ho
            clear e1 e2 hP hT7 H6 ho hin
            go_wp2
            obtain ⟨wo, hwo⟩ : ∃ wo : World, wo = wr := ⟨_, rfl⟩
            clear hwo
            go_loopw [10] (fun j wr => j = .int .i64 0 ∧ Hid (TwoM scL tsoL C B s u w.heap.size w wr)) (fun _ _ => 0)
            case atStart => exact ⟨rfl, Lib.hid HT7.out.1⟩
            case round =>
              obtain ⟨rfl, HT3⟩ := hrel
              have cB : Calls Tryd.prog 39 #[.pointer (some ⟨B.mb, 0, none⟩), .int .i64 x.2] wr fun e W' => (e = .returned (.slice none 0 0)) ∧ Below wr.heap.size wr W' :=
                HT3.out.swap.tells (R := fun e _ => e = .returned (.slice none 0 0)) (fun ob h => tbuffer_out B u ob wr h x.2 (by rw [HP2.out.uo.bl, HM.out.2.2.2.1]; exact HO.out))
              have r1 := keepAt HT3.out.bel HCW.out.1 HCW.out.2.2
              go_wp2_with fail
              with_reducible refine cB.mono ?_
              rintro e W8 ⟨rfl, hb8⟩
              have HT8 := Lib.hid (HT3.out.below hb8)
              clear cB hb8 r1
              go_wp2
              go_roundw
              case rel => exact ⟨k + 1, s, u, by omega, by go_num, Lib.hid (by rw [show n - (k + 1) = m from by have := HX.out; omega]; exact HT7.out.2), HT8⟩
              case measure => simp [intOf]; omega
        · obtain rfl : k = n := by omega
          have hk1 : ¬ (k : Int) < (k : Int) := by omega
          have hlu : u.ths.length = p.n := by rw [← HP.out.eq.ths]; exact HP.out.len
          have cX : Calls Tryd.prog 41 #[.pointer (some ⟨C.mb, 0, none⟩)] wr fun e W' => (∃ v, e = .returned v ∧ W'.ownsRow wr.heap.size 25 10 v s.ths.length (s.ths.flatMap Th.cells)) ∧ Below wr.heap.size wr W' :=
            HT.out.tells (R := fun e W' => ∃ v, e = .returned v ∧ W'.ownsRow wr.heap.size 25 10 v s.ths.length (s.ths.flatMap Th.cells)) (fun oa h => (sthreads_any C s oa wr h (by rw [HP.out.len]; have := HM.out.2.2.2.2.1; omega)).mono fun e W' ⟨v, h1, h2, h3⟩ => ⟨⟨v, h1, h2⟩, h3⟩)
          have HLU := Lib.hid hlu
          have hp8 : p.n ≤ 8 := HM.out.2.2.2.2.1
          have hm10 : p.m ≤ 1024 := HM.out.2.2.2.2.2.1
          clear hlu
          go_upto_region 16 with fail
          go_wp2_with fail
          with_reducible refine cX.mono ?_
          rintro e W5 ⟨⟨xv, rfl, hxv⟩, hb5⟩
          obtain ⟨xA, xc, rfl, _, hsx⟩ := own_sle Th.cells th_len10 tha s.ths hxv
          have hT5 := HT.out.below hb5
          have cY : Calls Tryd.prog 37 #[.pointer (some ⟨B.mb, 0, none⟩)] W5 fun e W' => (∃ v, e = .returned v ∧ W'.ownsRow W5.heap.size 25 10 v u.ths.length (u.ths.flatMap Th.cells)) ∧ Below W5.heap.size W5 W' :=
            hT5.swap.tells (R := fun e W' => ∃ v, e = .returned v ∧ W'.ownsRow W5.heap.size 25 10 v u.ths.length (u.ths.flatMap Th.cells)) (fun oa h => (tthreads_any B u oa W5 h (by rw [HLU.out]; have := HM.out.2.2.2.2.1; omega)).mono fun e W' ⟨v, h1, h2, h3⟩ => ⟨⟨v, h1, h2⟩, h3⟩)
          have H5 := Lib.hid (And.intro hT5 hsx)
          rw [HP.out.len]
          clear cX hxv hb5 hT5 hsx
          go_wp2_with fail
          with_reducible refine cY.mono ?_
          rintro e W6 ⟨⟨yv, rfl, hyv⟩, hb6⟩
          obtain ⟨yA, yc, rfl, _, hsy⟩ := own_sle Th.cells th_len10 tha u.ths hyv
          rw [HLU.out]
          have H6 := Lib.hid (And.intro (H5.out.1.below hb6) (And.intro (H5.out.2.step hb6) hsy))
          clear cY hyv hb6 hsy
          go_wp2
          obtain ⟨wo, hwo⟩ : ∃ wo : World, wo = wr := ⟨_, rfl⟩
          clear hwo
          go_loopw [13] (fun i wr => ∃ k : Nat, k ≤ p.n ∧ i = .int .i64 (k : Int) ∧ Below W6.heap.size W6 wr) (fun i _ => p.n - (intOf i).toNat)
          case atStart => exact ⟨0, Nat.zero_le _, rfl, Below.refl _ _⟩
          case round =>
            obtain ⟨k, hk, rfl, hB⟩ := hrel
            by_cases hkn : k < p.n
            · have hk0 : (0 : Int) ≤ (k : Int) := by omega
              have hk1 : (k : Int) < (p.n : Int) := by omega
              have hk2 : ¬ (p.n : Int) ≤ (k : Int) := by omega
              obtain ⟨xb, xo, rfl, hxl, hxx⟩ := (H6.out.2.1.step hB) (by rw [HP.out.len]; omega)
              obtain ⟨yb, yo, rfl, hyl, hyy⟩ := (H6.out.2.2.step hB) (by rw [HLU.out]; omega)
              obtain ⟨X, hX⟩ : ∃ X, s.ths.getD k tha = X := ⟨_, rfl⟩
              have hx9 : ∀ j v, (s.ths.getD k tha).cells[j]? = some v → wr.cell? ⟨xb, xo + k * 10 + j, none⟩ = some v := hxx k (by rw [HP.out.len]; exact hkn)
              have hy9 : ∀ j v, (u.ths.getD k tha).cells[j]? = some v → wr.cell? ⟨yb, yo + k * 10 + j, none⟩ = some v := hyy k (by rw [HLU.out]; exact hkn)
              rw [hX] at hx9
              rw [← HP.out.eq.ths, hX] at hy9
              have hq := fun w => th_neq X w
              have HF9 := Lib.hid (And.intro (show wr.drew.rangeAt xb (xo + k * 10) X.cells from hx9) (And.intro (show xb < wr.drew.heap.size from hxl) (And.intro (show wr.drew.rangeAt yb (yo + k * 10) X.cells from hy9) (And.intro (show yb < wr.drew.heap.size from hyl) hB.drew))))
              clear hxx hyy hX hx9 hy9 hxl hyl hB
              go_upto_region 20 with fail
              refine startG (fun W' => Below wr.drew.heap.size wr.drew W') 14 (by kernel_rfl) ?_
              have HF := HF9
              clear HF9
              generalize wr.drew = W0 at HF ⊢
              have hH : Below W0.heap.size W0 W0 := Below.refl _ _
              refine takeG0 (i := 0) (v := .int .i64 (k : Int)) rfl (by kernel_rfl) (by kernel_rfl) (by kernel_rfl) (by kernel_rfl) (fun _ _ _ h => h) (Or.inl ⟨by rfl, fun W hW => by go_simp⟩) hH ?_
              simp only [Act.put, List.getElem_toArray, List.getElem_cons_zero, List.getElem_cons_succ, List.setIfInBounds_toArray, List.set_cons_zero, List.set_cons_succ]
              refine takeG0 (i := 1) (v := .slice (some ⟨yb, yo, none⟩) p.n yc) rfl (by kernel_rfl) (by kernel_rfl) (by kernel_rfl) (by kernel_rfl) (fun _ _ _ h => h) (Or.inl ⟨by rfl, fun W hW => by go_simp⟩) hH ?_
              simp only [Act.put, List.getElem_toArray, List.getElem_cons_zero, List.getElem_cons_succ, List.setIfInBounds_toArray, List.set_cons_zero, List.set_cons_succ]
              refine takeG0 (i := 2) (v := .int .i64 (p.n : Int)) rfl (by kernel_rfl) (by kernel_rfl) (by kernel_rfl) (by kernel_rfl) (fun _ _ _ h => h) (Or.inl ⟨by rfl, fun W hW => by go_simp⟩) hH ?_
              simp only [Act.put, List.getElem_toArray, List.getElem_cons_zero, List.getElem_cons_succ, List.setIfInBounds_toArray, List.set_cons_zero, List.set_cons_succ]
              refine takeG0 (i := 3) (v := .bool false) rfl (by kernel_rfl) (by kernel_rfl) (by kernel_rfl) (by kernel_rfl) (fun _ _ _ h => h) (Or.inl ⟨by rfl, fun W hW => by go_simp⟩) hH ?_
              simp only [Act.put, List.getElem_toArray, List.getElem_cons_zero, List.getElem_cons_succ, List.setIfInBounds_toArray, List.set_cons_zero, List.set_cons_succ]
              refine takeG0 (i := 4) (v := .bool false) rfl (by kernel_rfl) (by kernel_rfl) (by kernel_rfl) (by kernel_rfl) (fun _ _ _ h => h) (Or.inl ⟨by rfl, fun W hW => by go_simp⟩) hH ?_
              simp only [Act.put, List.getElem_toArray, List.getElem_cons_zero, List.getElem_cons_succ, List.setIfInBounds_toArray, List.set_cons_zero, List.set_cons_succ]
              refine takeG0 (i := 5) (v := .slice (some ⟨xb, xo, none⟩) p.n xc) rfl (by kernel_rfl) (by kernel_rfl) (by kernel_rfl) (by kernel_rfl) (fun _ _ _ h => h) (Or.inl ⟨by rfl, fun W hW => by go_simp⟩) hH ?_
              simp only [Act.put, List.getElem_toArray, List.getElem_cons_zero, List.getElem_cons_succ, List.setIfInBounds_toArray, List.set_cons_zero, List.set_cons_succ]
              refine takeG0 (i := 6) (v := .int .i64 (k : Int)) rfl (by kernel_rfl) (by kernel_rfl) (by kernel_rfl) (by kernel_rfl) (fun _ _ _ h => h) (Or.inl ⟨by rfl, fun W hW => by go_simp⟩) hH ?_
              simp only [Act.put, List.getElem_toArray, List.getElem_cons_zero, List.getElem_cons_succ, List.setIfInBounds_toArray, List.set_cons_zero, List.set_cons_succ]
              refine takeG0 (i := 7) (v := .pointer (some ⟨xb, xo + k * 10, none⟩)) rfl (by kernel_rfl) (by kernel_rfl) (by kernel_rfl) (by kernel_rfl) (fun _ _ _ h => h) (Or.inl ⟨by rfl, fun W hW => by go_simp⟩) hH ?_
              simp only [Act.put, List.getElem_toArray, List.getElem_cons_zero, List.getElem_cons_succ, List.setIfInBounds_toArray, List.set_cons_zero, List.set_cons_succ]
              refine takeT (i := 8) (v := .agg (thArr X)) rfl (by kernel_rfl) (by kernel_rfl) (by kernel_rfl) (by kernel_rfl) (fun _ _ _ h => h) (yieldsIf_load_mid (by rfl) 25 (.tmp 107) rfl xb (xo + k * 10) rfl X.cells _ (fun W hW => range_below HF.out.1 HF.out.2.1 hW) Tryd.underlying25 rfl th_infoL) hH ?_
              simp only [Act.put, List.getElem_toArray, List.getElem_cons_zero, List.getElem_cons_succ, List.setIfInBounds_toArray, List.set_cons_zero, List.set_cons_succ]
              refine takeG0 (i := 9) (v := .slice (some ⟨yb, yo, none⟩) p.n yc) rfl (by kernel_rfl) (by kernel_rfl) (by kernel_rfl) (by kernel_rfl) (fun _ _ _ h => h) (Or.inl ⟨by rfl, fun W hW => by go_simp⟩) hH ?_
              simp only [Act.put, List.getElem_toArray, List.getElem_cons_zero, List.getElem_cons_succ, List.setIfInBounds_toArray, List.set_cons_zero, List.set_cons_succ]
              refine takeG0 (i := 10) (v := .int .i64 (k : Int)) rfl (by kernel_rfl) (by kernel_rfl) (by kernel_rfl) (by kernel_rfl) (fun _ _ _ h => h) (Or.inl ⟨by rfl, fun W hW => by go_simp⟩) hH ?_
              simp only [Act.put, List.getElem_toArray, List.getElem_cons_zero, List.getElem_cons_succ, List.setIfInBounds_toArray, List.set_cons_zero, List.set_cons_succ]
              refine takeG0 (i := 11) (v := .pointer (some ⟨yb, yo + k * 10, none⟩)) rfl (by kernel_rfl) (by kernel_rfl) (by kernel_rfl) (by kernel_rfl) (fun _ _ _ h => h) (Or.inl ⟨by rfl, fun W hW => by go_simp⟩) hH ?_
              simp only [Act.put, List.getElem_toArray, List.getElem_cons_zero, List.getElem_cons_succ, List.setIfInBounds_toArray, List.set_cons_zero, List.set_cons_succ]
              refine takeT (i := 12) (v := .agg (thArr X)) rfl (by kernel_rfl) (by kernel_rfl) (by kernel_rfl) (by kernel_rfl) (fun _ _ _ h => h) (yieldsIf_load_mid (by rfl) 25 (.tmp 111) rfl yb (yo + k * 10) rfl X.cells _ (fun W hW => range_below HF.out.2.2.1 HF.out.2.2.2.1 hW) Tryd.underlying25 rfl th_infoL) hH ?_
              simp only [Act.put, List.getElem_toArray, List.getElem_cons_zero, List.getElem_cons_succ, List.setIfInBounds_toArray, List.set_cons_zero, List.set_cons_succ]
              refine takeG0 (i := 13) (v := .bool false) rfl (by kernel_rfl) (by kernel_rfl) (by kernel_rfl) (by kernel_rfl) (fun _ _ _ h => h) (Or.inl ⟨by rfl, fun W hW => by go_simp⟩) hH ?_
              simp only [Act.put, List.getElem_toArray, List.getElem_cons_zero, List.getElem_cons_succ, List.setIfInBounds_toArray, List.set_cons_zero, List.set_cons_succ]
              refine lastG (by kernel_rfl) rfl (by kernel_rfl) (fun K hK => ?_)
              go_simp
              refine hK.out _ _ ?_
              clear hK K hH
              clear hq
              go_wp2
              go_roundw
              case rel => exact ⟨k + 1, by omega, by go_num, HF.out.2.2.2.2⟩
              case measure => simp [intOf]; omega
            · obtain rfl : k = p.n := by omega
              have hk1 : ¬ (p.n : Int) < (p.n : Int) := by omega
              have H7 := Lib.hid (H6.out.1.below hB)
              have hmu : u.mem.length = p.m := by rw [HP.out.eq.ml]; exact HM.out.2.2.2.2.2.2.1
              have hms : s.mem.length = p.m := by rw [HP.out.eq.mem]; exact hmu
              have HMU := Lib.hid (And.intro hmu hms)
              have cX : Calls Tryd.prog 40 #[.pointer (some ⟨C.mb, 0, none⟩)] wr fun e W' => (∃ v, e = .returned v ∧ W'.ownsRow wr.heap.size 22 1 v s.mem.length (s.mem.map fun z => .int .u32 z)) ∧ Below wr.heap.size wr W' :=
                H7.out.tells (R := fun e W' => ∃ v, e = .returned v ∧ W'.ownsRow wr.heap.size 22 1 v s.mem.length (s.mem.map fun z => .int .u32 z)) (fun oa h => (smem_any C s oa wr h (by rw [hms]; have := HM.out.2.2.2.2.2.1; omega)).mono fun e W' ⟨v, h1, h2, h3⟩ => ⟨⟨v, h1, h2⟩, h3⟩)
              clear hB hmu hms
              go_upto_region 22 with fail
              go_wp2_with fail
              with_reducible refine cX.mono ?_
              rintro e W8 ⟨⟨mv, rfl, hmv⟩, hb8⟩
              rw [HMU.out.2] at hmv
              obtain ⟨mA, mc, rfl, _, hmx⟩ := own_sl hmv
              have hT8 := H7.out.below hb8
              have cY : Calls Tryd.prog 38 #[.pointer (some ⟨B.mb, 0, none⟩)] W8 fun e W' => (∃ v, e = .returned v ∧ W'.ownsRow W8.heap.size 22 1 v u.mem.length (u.mem.map fun z => .int .u32 z)) ∧ Below W8.heap.size W8 W' :=
                hT8.swap.tells (R := fun e W' => ∃ v, e = .returned v ∧ W'.ownsRow W8.heap.size 22 1 v u.mem.length (u.mem.map fun z => .int .u32 z)) (fun oa h => (tmem_any B u oa W8 h (by rw [HMU.out.1]; have := HM.out.2.2.2.2.2.1; omega)).mono fun e W' ⟨v, h1, h2, h3⟩ => ⟨⟨v, h1, h2⟩, h3⟩)
              have H8 := Lib.hid (And.intro hT8 hmx)
              clear cX hmv hb8 hT8 hmx
              go_wp2_with fail
              with_reducible refine cY.mono ?_
              rintro e W9 ⟨⟨nv, rfl, hnv⟩, hb9⟩
              rw [HMU.out.1] at hnv
              obtain ⟨nA, nc, rfl, _, hnx⟩ := own_sl hnv
              have H9 := Lib.hid (And.intro (H8.out.1.below hb9) (And.intro (H8.out.2.step hb9) hnx))
              clear cY hnv hb9 hnx
              go_wp2
              obtain ⟨wo2, hwo⟩ : ∃ wo : World, wo = wr := ⟨_, rfl⟩
              clear hwo
              go_loopw [16] (fun i wr => ∃ k : Nat, k ≤ p.m ∧ i = .int .i64 (k : Int) ∧ Below W9.heap.size W9 wr) (fun i _ => p.m - (intOf i).toNat)
              case atStart => exact ⟨0, Nat.zero_le _, rfl, Below.refl _ _⟩
              case round =>
                obtain ⟨k, hk, rfl, hB⟩ := hrel
                by_cases hkn : k < p.m
                · have hk0 : (0 : Int) ≤ (k : Int) := by omega
                  have hk1 : (k : Int) < (p.m : Int) := by omega
                  have hk2 : ¬ (p.m : Int) ≤ (k : Int) := by omega
                  obtain ⟨xb, xo, rfl, hxl, hxx⟩ := (H9.out.2.1.step hB) (by omega)
                  obtain ⟨yb, yo, rfl, hyl, hyy⟩ := (H9.out.2.2.step hB) (by omega)
                  obtain ⟨z, hz⟩ : ∃ z, s.mem.getD k 0 = z := ⟨_, rfl⟩
                  have e1 : (s.mem.map fun z => Value.int .u32 z).getD k undef = .int .u32 z := by
                    rw [← hz]
                    simp [List.getD_eq_getElem?_getD, List.getElem?_eq_getElem (show k < s.mem.length by rw [HMU.out.2]; exact hkn)]
                  have hx9 : wr.cell? ⟨xb, xo + k, none⟩ = some (.int .u32 z) := by
                    rw [← e1]
                    exact hxx k (by omega)
                  have hy9 : wr.cell? ⟨yb, yo + k, none⟩ = some (.int .u32 z) := by
                    rw [← e1, HP.out.eq.mem]
                    exact hyy k (by omega)
                  have HB := Lib.hid hB
                  clear hxx hyy hz e1 hxl hyl hB
                  go_upto_region 26 with fail
                  go_quiet (fail)
                  go_wp2
                  go_roundw
                  case rel => exact ⟨k + 1, by omega, by go_num, HB.out.trans ⟨rfl, rfl, rfl, Nat.le_refl _, fun _ _ => rfl⟩⟩
                  case measure => simp [intOf]; omega
                · obtain rfl : k = p.m := by omega
                  have hk1 : ¬ (p.m : Int) < (p.m : Int) := by omega
                  have HT9 := H9.out.1.below hB
                  have cS : Calls Tryd.prog 42 #[.pointer (some ⟨C.mb, 0, none⟩)] wr fun e W' => (∃ A cap, e = .returned (.slice A s.slp.length cap)) ∧ Below wr.heap.size wr W' :=
                    HT9.tells (R := fun e _ => ∃ A cap, e = .returned (.slice A s.slp.length cap)) (fun oa h => (ssleepers_any C s oa wr h (by have := HP.out.sc.slp; omega) _ rfl).mono fun e W' ⟨A, cap, h1, h2⟩ => ⟨⟨A, cap, h1⟩, h2⟩)
                  have H10 := Lib.hid HT9
                  clear hB HT9
                  go_wp2_with fail
                  with_reducible refine cS.mono ?_
                  rintro e W11 ⟨⟨sA, sc, rfl⟩, hb11⟩
                  have HT11 := H10.out.below hb11
                  have cS2 : Calls Tryd.prog 43 #[.pointer (some ⟨B.mb, 0, none⟩)] W11 fun e W' => (∃ A cap, e = .returned (.slice A u.slp.length cap)) ∧ Below W11.heap.size W11 W' :=
                    HT11.swap.tells (R := fun e _ => ∃ A cap, e = .returned (.slice A u.slp.length cap)) (fun oa h => (tsleepers_any B u oa W11 h (by have := HP.out.uc.slp; omega) _ rfl).mono fun e W' ⟨A, cap, h1, h2⟩ => ⟨⟨A, cap, h1⟩, h2⟩)
                  have H11 := Lib.hid HT11
                  rw [HP.out.eq.slp]
                  clear cS hb11 HT11
                  go_wp2_with fail
                  with_reducible refine cS2.mono ?_
                  rintro e W12 ⟨⟨tA, tc, rfl⟩, hb12⟩
                  have H12 := Lib.hid (H11.out.below hb12)
                  clear cS2 hb12
                  go_wp2
                  go_ret
                  exact ⟨rfl, H12.out.bel⟩
end Go.Proofs.YtjmnogpnjombgaaDoor
