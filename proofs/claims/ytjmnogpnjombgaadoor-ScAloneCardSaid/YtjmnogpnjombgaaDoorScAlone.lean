/- ScAlone. -/
import Derived.Test.YtjmnogpnjombgaaDoorMirP
import Derived.Test.YtjmnogpnjombgaaDoorTwoM
import Derived.Test.YtjmnogpnjombgaaDoorTsBuf
import Derived.Test.YtjmnogpnjombgaaDoorMAll
import Derived.Test.YtjmnogpnjombgaaDoorThEql
import Derived.Test.YtjmnogpnjombgaaDoorScAwake
import Derived.Test.YtjmnogpnjombgaaDoorTsTz
import Derived.Test.YtjmnogpnjombgaaDoorScEager
import Derived.Deep.QuietTactic
import Derived.BigQuiet
namespace Go.Proofs.YtjmnogpnjombgaaDoor
open Go.ChangeShapes Go.WideShapes Go.ChangeAt Go.RowKit Go.Deep
set_option linter.unusedVariables false
set_option maxRecDepth 100000
set_option linter.unusedSimpArgs false

theorem make6 (w : World) : (Instr.makeSlice 28 (.int .i64 6) (.int .i64 6)).run Tryd.prog w = .ok (.slice (some ⟨w.heap.size, 0, none⟩) 6 6) (w.alloc (.cells #[.int .u32 0, .int .u32 0, .int .u32 0, .int .u32 0, .int .u32 0, .int .u32 0] 22)) := by
  obtain ⟨i, hi, hz, hs, hb⟩ := info_parts words_info5'
  have hr := run_make (P := Tryd.prog) w 28 22 i _ Tryd.underlying28 hi hz .i64 .i64 6 6 (by omega) (by omega) (by rw [hb]; omega) (by omega)
  rw [hs, show madeCells (Value.int .u32 0).cells ((6 : Int).toNat * 1) = #[.int .u32 0, .int .u32 0, .int .u32 0, .int .u32 0, .int .u32 0, .int .u32 0] from by kernel_rfl] at hr
  exact hr
def pSix (c : Cd) (ab mb : Nat) (room : Int) : Pg := ⟨some ⟨ab, 0, none⟩, 1, 1, fun _ => c, some ⟨mb, 0, none⟩, 6, 6, fun _ => 0, room⟩
theorem pSix_ok {c : Cd} (hc : c.Ok) (ab mb : Nat) {room : Int} (h1 : 1 ≤ room) (h16 : room ≤ 16) : (pSix c ab mb room).Ok where
  hl := Nat.le_refl _
  hm := by show 1 ≤ maxLen; unfold maxLen; omega
  ml := Nat.le_refl _
  mm := by show 6 ≤ maxLen; unfold maxLen; omega
  cds := fun t ht => hc
  z0 := fun i hi => ⟨Int.le_refl _, by show (0 : Int) ≤ _; omega⟩
  r0 := by show _ ≤ room; omega
  r1 := by show room ≤ _; omega
theorem pSix_at {W : World} {c : Cd} {ab mb : Nat} {room : Int} (ha : Blk W ab 26 #[.slice c.A c.len c.cap]) (hm : Blk W mb 22 #[.int .u32 0, .int .u32 0, .int .u32 0, .int .u32 0, .int .u32 0, .int .u32 0]) (hc : c.At W) : (pSix c ab mb room).At W where
  codes := fun _ => ⟨ab, 0, rfl, ha.lt, fun i hi => by
    have hi : i < 1 := hi
    rw [ha.cell]
    obtain rfl : i = 0 := by omega
    rfl⟩
  code := fun t ht => hc
  mem := fun _ => ⟨mb, 0, rfl, hm.lt, fun i hi => by
    have hi : i < 6 := hi
    rw [hm.cell]
    rcases (by omega : i = 0 ∨ i = 1 ∨ i = 2 ∨ i = 3 ∨ i = 4 ∨ i = 5) with rfl | rfl | rfl | rfl | rfl | rfl <;> rfl⟩
/-- What is known of both machines between picks, with room for so many picks more. -/
structure AlnP (C B : MB) (m : Nat) (s u : Mst) : Prop where
  vr : VR B 0 s u
  so : MOk C s
  uo : TOk B u
  sc : mCan C (3 * m + 3) s
  uc : mCan B (3 * m + 3) u
  len : s.ths.length = 1
  ml : s.mem.length = C.m
theorem AlnP.flush {C B : MB} {m : Nat} {s u : Mst} (h : AlnP C B m s u) : AlnP C B m s (tflush 0 u) :=
  ⟨h.vr.flush, h.so, h.uo.flush 0, h.sc, h.uc.flush 0, h.len, h.ml⟩
theorem AlnP.ulen {C B : MB} {m : Nat} {s u : Mst} (h : AlnP C B m s u) : u.ths.length = 1 := by rw [← h.vr.ths]; exact h.len
theorem AlnP.flushPick {C B : MB} {m : Nat} {s u : Mst} (h : AlnP C B m s u) : tPick B u (1, 0) = tflush 0 u := by
  have := tPick_in (B := B) (s := u) 1 0 (by rw [h.ulen]; omega)
  rw [if_neg (by decide), if_pos rfl] at this
  exact this
theorem mCan.lessN {B : MB} {n k : Nat} {s : Mst} (h : mCan B n s) (hk : k ≤ n) : mCan B k s := ⟨by have := h.evs; omega, by have := h.slp; omega, h.who, h.buf, h.t8⟩
/-- Either of the two ways a step goes. -/
theorem AlnP.step {C B : MB} (hM : MirB C B) (hC : MBok C) (hB : MBok B) (hn : C.codes.length = 1) {m : Nat} {s u : Mst} (h : AlnP C B (m + 1) s u) :
    ((tPick B u (0, 0)).evs.length ≠ u.evs.length ∧ (∃ l x, (tPick B u (0, 0)).evs = l ++ [x] ∧ x.kind = 3) ∧ ((tPick B u (0, 0)).ths.getD 0 tha).pc = (u.ths.getD 0 tha).pc ∧ AlnP C B m s (tPick B u (0, 0))) ∨
    (((tPick B u (0, 0)).evs.length = u.evs.length ∨ ∃ l x, (tPick B u (0, 0)).evs = l ++ [x] ∧ x.kind ≠ 3) ∧ AlnP C B m (sPick C s (0, 0)) (tPick B u (0, 0))) := by
  have hbl : u.bufs.length = u.ths.length := by rw [h.uo.bl, h.ulen, ← hM.n, hn]
  have hu : mCan B (3 * m + 3) (tPick B u (0, 0)) := tPick_can hM.r16 (by have := h.uc; rw [show 3 * (m + 1) + 3 = (3 * m + 3) + 3 by omega] at this; exact this) hbl _
  have huo := tPick_ok hB h.uo (0, 0)
  rcases alone_step hM hC (by rw [hn]; omega) h.vr (by rw [h.ulen]; omega) 0 with ⟨a1, a2, a3, a4⟩ | ⟨a1, a2⟩
  · exact .inl ⟨a1, a2, a3, a4, h.so, huo, h.sc.lessN (by omega), hu, h.len, h.ml⟩
  · exact .inr ⟨a1, a2, sPick_ok hC h.so _, huo, sPick_can (by have := h.sc; rw [show 3 * (m + 1) + 3 = (3 * m + 3) + 3 by omega] at this; exact this) _, hu, by rw [sPick_len hC h.so]; exact h.len, by rw [sPick_mlen]; exact h.ml⟩
theorem flush_le (t : Nat) (u : Mst) : ((tflush t u).bufs.getD t []).length ≤ (u.bufs.getD t []).length - 1 := by
  cases hq : u.bufs.getD t [] with
  | nil => rw [tflush_nil hq, hq]; exact Nat.zero_le _
  | cons x l =>
    rw [tflush_cons hq]
    show ((u.bufs.set t l).getD t []).length ≤ _
    rcases Nat.lt_or_ge t u.bufs.length with h | h
    · rw [getD_setE _ _ _ _ h]; simp
    · rw [getD_nil_of_ge _ _ _ h] at hq; cases hq
def evq : Evt := ⟨0, 0, 0, 0, 0, 0, 0, false⟩

set_option maxHeartbeats 8000000 in
theorem scAlone_true (c : Cd) (hc : c.Ok) (r : Int) (hr0 : 0 ≤ r) (hr1 : r ≤ 255) (A : Option Addr) (n cap : Nat) (Z : Nat → Int) (hz : ∀ i, i < n → 0 ≤ Z i ∧ Z i ≤ 255) (w : World) (hT : Tab w) (hca : c.At w) (hs : Sl w A n (fun i => .int .u8 (Z i))) :
    Calls Tryd.prog 11 #[.slice c.A c.len c.cap, .int .u8 r, .slice A n cap] w fun e w' => e = .returned (.bool true) ∧ Below w.heap.size w w' := by
  have cA := awake_any w hT
  have hN := hT.1
  have HH := Lib.hid (And.intro hT (And.intro hca (And.intro hs (And.intro hc hz))))
  have hmk := make6
  clear hT hca hs hc hz
  go_enter Tryd.func11, Tryd.ntmps11
  go_wp2_with fail
  with_reducible refine cA.mono ?_
  rintro e W1 ⟨rfl, hB1⟩
  have HB1 := Lib.hid hB1
  clear cA hB1
  by_cases hsm : c.len ≤ 400 ∧ n ≤ 600
  case neg =>
    have cA := awake_any W1 (HH.out.1.step HB1.out)
    rcases (by omega : 400 < c.len ∨ (c.len ≤ 400 ∧ 600 < n)) with hr | ⟨hr, hr2⟩
    case' inl =>
      have h1 : (400 : Int) < (c.len : Int) := by omega
    case' inr =>
      have h1 : ¬ (400 : Int) < (c.len : Int) := by omega
      have h2 : (600 : Int) < (n : Int) := by omega
      clear hr2
    all_goals
      clear hsm hr
      go_wp2_with fail
      with_reducible refine cA.mono ?_
      rintro e W3 ⟨rfl, hB3⟩
      have HB3 := Lib.hid (step_below HB1.out hB3)
      clear cA hB3
      go_wp2
      go_ret
      exact ⟨rfl, HB3.out⟩
  case pos =>
    obtain ⟨hlc, hn6⟩ := hsm
    have h1 : ¬ (400 : Int) < (c.len : Int) := by omega
    have h2 : ¬ (600 : Int) < (n : Int) := by omega
    have HL := Lib.hid (And.intro hlc hn6)
    have e16 : 0 ≤ r % 16 := by omega
    have e17 : r % 16 < 16 := by omega
    clear hlc hn6
    go_upto_region 4 with fail
    have hsl := Blk.new W1 26 #[.slice c.A c.len c.cap]
    have b1 := HB1.out.alloc HB1.out.size (.cells #[.slice c.A c.len c.cap] 26)
    have hz1 : (W1.alloc (.cells #[.slice c.A c.len c.cap] 26)).heap.size = W1.heap.size + 1 := by simp
    obtain ⟨ab, hab⟩ : ∃ ab, W1.heap.size = ab := ⟨_, rfl⟩
    rw [hab] at hsl hz1
    try rw [hab]
    clear hab
    generalize W1.alloc (.cells #[.slice c.A c.len c.cap] 26) = V1 at hsl b1 hz1 ⊢
    have hmm := Blk.new V1 22 #[.int .u32 0, .int .u32 0, .int .u32 0, .int .u32 0, .int .u32 0, .int .u32 0]
    have a2 := (Below.refl V1.heap.size V1).alloc (Nat.le_refl _) (.cells #[.int .u32 0, .int .u32 0, .int .u32 0, .int .u32 0, .int .u32 0, .int .u32 0] 22)
    have hz2 : (V1.alloc (.cells #[.int .u32 0, .int .u32 0, .int .u32 0, .int .u32 0, .int .u32 0, .int .u32 0] 22)).heap.size = V1.heap.size + 1 := by simp
    rw [hz1] at hmm hz2
    obtain ⟨mb, hmb⟩ : ∃ mb, ab + 1 = mb := ⟨_, rfl⟩
    rw [hmb] at hmm hz2
    try rw [hmb]
    clear hmb hz1
    have b2 := step_below b1 a2
    have hsl2 := hsl.below a2 hsl.lt
    generalize V1.alloc (.cells #[.int .u32 0, .int .u32 0, .int .u32 0, .int .u32 0, .int .u32 0, .int .u32 0] 22) = V2 at hmm hz2 b2 hsl2 ⊢
    have hq := Blk.new V2 63 #[.slice (some ⟨ab, 0, none⟩) 1 1, .slice (some ⟨mb, 0, none⟩) 6 6, .int .i64 (1 + r % 16)]
    have a3 := (Below.refl V2.heap.size V2).alloc (Nat.le_refl _) (.cells #[.slice (some ⟨ab, 0, none⟩) 1 1, .slice (some ⟨mb, 0, none⟩) 6 6, .int .i64 (1 + r % 16)] 63)
    rw [hz2] at hq
    obtain ⟨pb, hpb⟩ : ∃ pb, mb + 1 = pb := ⟨_, rfl⟩
    rw [hpb] at hq
    try rw [hpb]
    clear hpb hz2
    have b3 := step_below b2 a3
    have hsl3 := hsl2.below a3 hsl2.lt
    have hmm3 := hmm.below a3 hmm.lt
    clear a2 hsl hsl2 hmm b1 b2 a3 hmk
    generalize V2.alloc (.cells #[.slice (some ⟨ab, 0, none⟩) 1 1, .slice (some ⟨mb, 0, none⟩) 6 6, .int .i64 (1 + r % 16)] 63) = W2 at hq b3 hsl3 hmm3 ⊢
    have hPo : (pSix c ab mb (1 + r % 16)).Ok := pSix_ok HH.out.2.2.2.1 ab mb (by omega) (by omega)
    have hPa : (pSix c ab mb (1 + r % 16)).At W2 := pSix_at hsl3 hmm3 (HH.out.2.1.step b3)
    obtain ⟨tt, jj, ee, hchk⟩ := chk_some (pSix c ab mb (1 + r % 16))
    have HP := Lib.hid (And.intro hPo (And.intro hPa (And.intro hchk (And.intro b3 hq))))
    by_cases hee : ee = 0
    case neg =>
      have cN : Calls Tryd.prog 21 #[.agg #[.slice (some ⟨ab, 0, none⟩) 1 1, .slice (some ⟨mb, 0, none⟩) 6 6, .int .i64 (1 + r % 16)]] _ _ := scNew_bad (pSix c ab mb (1 + r % 16)) hPo tt jj ee hchk hee W2 (HH.out.1.step b3) hPa
      have hee' : (ee != 0) = true := by simpa using hee
      have HC := Lib.hid hee
      clear hchk hee hPo hPa hsl3 hmm3 b3
      go_wp2_with (refine wpList_load_row rfl 63 (.tmp 7) rfl _ rfl 63 #[.slice (some ⟨ab, 0, none⟩) 1 1, .slice (some ⟨mb, 0, none⟩) 6 6, .int .i64 (1 + r % 16)] (0, 0) _ hq Tryd.underlying63 rfl pgz_info ?_)
      with_reducible refine cN.mono ?_
      rintro e W3 ⟨rfl, hB3⟩
      have HB3 := Lib.hid (step_below HP.out.2.2.2.1 hB3)
      have hq3 := hq.below hB3 hq.lt
      have cN : Calls Tryd.prog 30 #[.agg #[.slice (some ⟨ab, 0, none⟩) 1 1, .slice (some ⟨mb, 0, none⟩) 6 6, .int .i64 (1 + r % 16)]] _ _ := tsoNew_bad (pSix c ab mb (1 + r % 16)) HP.out.1 tt jj ee HP.out.2.2.1 HC.out W3 (HH.out.1.step HB3.out) (HP.out.2.1.step hB3)
      clear hB3 hq
      go_wp2_with (refine wpList_load_row rfl 63 (.tmp 7) rfl _ rfl 63 #[.slice (some ⟨ab, 0, none⟩) 1 1, .slice (some ⟨mb, 0, none⟩) 6 6, .int .i64 (1 + r % 16)] (0, 0) _ hq3 Tryd.underlying63 rfl pgz_info ?_)
      with_reducible refine cN.mono ?_
      rintro e W4 ⟨rfl, hB4⟩
      have HB4 := Lib.hid (step_below HB3.out hB4)
      clear cN hB4 hq3
      go_wp2
      go_ret
      exact ⟨rfl, HB4.out⟩
    case pos =>
      subst hee
      have hsmall := hchk.small
      have cN : Calls Tryd.prog 21 #[.agg #[.slice (some ⟨ab, 0, none⟩) 1 1, .slice (some ⟨mb, 0, none⟩) 6 6, .int .i64 (1 + r % 16)]] _ _ := scNew_ok (pSix c ab mb (1 + r % 16)) hPo tt jj hchk W2 (HH.out.1.step b3) hPa
      clear hchk hPo hPa hsl3 hmm3 b3 hsmall
      go_wp2_with (refine wpList_load_row rfl 63 (.tmp 7) rfl _ rfl 63 #[.slice (some ⟨ab, 0, none⟩) 1 1, .slice (some ⟨mb, 0, none⟩) 6 6, .int .i64 (1 + r % 16)] (0, 0) _ hq Tryd.underlying63 rfl pgz_info ?_)
      with_reducible refine cN.mono ?_
      rintro e W3 ⟨C, rfl, hNM, hI, hB3⟩
      have hq3 := hq.below hB3 hq.lt
      have hBw3 := step_below HP.out.2.2.2.1 hB3
      have H3 := Lib.hid (And.intro hNM (And.intro hI (And.intro hB3 hBw3)))
      have cN : Calls Tryd.prog 30 #[.agg #[.slice (some ⟨ab, 0, none⟩) 1 1, .slice (some ⟨mb, 0, none⟩) 6 6, .int .i64 (1 + r % 16)]] _ _ := tsoNew_ok (pSix c ab mb (1 + r % 16)) HP.out.1 tt jj HP.out.2.2.1 W3 (HH.out.1.step hBw3) (HP.out.2.1.step hB3)
      clear hNM hI hB3 hq hBw3
      go_wp2_with (refine wpList_load_row rfl 63 (.tmp 7) rfl _ rfl 63 #[.slice (some ⟨ab, 0, none⟩) 1 1, .slice (some ⟨mb, 0, none⟩) 6 6, .int .i64 (1 + r % 16)] (0, 0) _ hq3 Tryd.underlying63 rfl pgz_info ?_)
      with_reducible refine cN.mono ?_
      rintro e W4 ⟨B, rfl, hNM4, hro, hI4, hB4⟩
      have hBw4 := step_below H3.out.2.2.2 hB4
      have hTM : TwoM scL tsoL C B (s0 (pSix c ab mb (1 + r % 16))) (t0 (pSix c ab mb (1 + r % 16))) w.heap.size w W4 := TwoM.make H3.out.2.1 hI4 (Nat.le_refl _) hB4 hBw4 HP.out.2.2.2.1.size H3.out.2.2.1.size
      have hMB : MBok B := newM_ok hNM4 (by show 1 ≤ 8; omega) (by show 6 ≤ 1024; omega)
      have hMC : MBok C := newM_ok H3.out.1 (by show 1 ≤ 8; omega) (by show 6 ≤ 1024; omega)
      have hroom : B.room = 1 + r % 16 := hro
      have hMir : MirB C B := mirB_of H3.out.1 hNM4 (by rw [hroom]; omega) (by rw [hroom]; omega)
      have hCn : C.codes.length = 1 := H3.out.1.n
      have hE : AlnP C B n (s0 (pSix c ab mb (1 + r % 16))) (t0 (pSix c ab mb (1 + r % 16))) :=
        ⟨⟨rfl, rfl, rfl, fun i hi => by
            show (List.replicate 1 ([] : List Ent)).getD i [] = []
            rw [List.getD_eq_getElem?_getD, List.getElem?_replicate]
            split <;> rfl, rfl, by show 0 < (List.replicate 1 ([] : List Ent)).length; decide, by show ((List.range 6).map (fun _ => (0 : Int))).length = B.m; rw [List.length_map, List.length_range]; exact hNM4.m.symm, fun e he => by cases he⟩,
          s0_ok HP.out.1 H3.out.1, t0_ok HP.out.1 hNM4, s0_can (by show 1 ≤ 8; omega) _ (by have := HL.out.2; omega), t0_can (by show 1 ≤ 8; omega) _ (by have := HL.out.2; omega), rfl, by show ((List.range 6).map (fun _ => (0 : Int))).length = C.m; rw [List.length_map, List.length_range]; exact H3.out.1.m.symm⟩
      have HE := Lib.hid (And.intro hTM hE)
      have HM := Lib.hid (And.intro hMB (And.intro hMC (And.intro hMir (And.intro hCn (show B.m = 6 from hNM4.m)))))
      clear hNM4 hro hI4 hB4 hBw4 hTM hMB hMC hMir hE cN hq3 hroom hCn
      go_wp2
      go_loopw [12] (fun i wr => ∃ (k : Nat) (s u : Mst), k ≤ n ∧ i = .int .i64 (k : Int) ∧ Hid (AlnP C B (n - k) s u) ∧ Hid (TwoM scL tsoL C B s u w.heap.size w wr)) (fun i _ => n - (intOf i).toNat)
      case atStart => exact ⟨0, _, _, Nat.zero_le _, rfl, Lib.hid HE.out.2, Lib.hid HE.out.1⟩
      case round =>
        obtain ⟨k, s, u, hk, rfl, HA, HT⟩ := hrel
        have hn6 : n ≤ 600 := HL.out.2
        by_cases hkn : k < n
        · have hk0 : (0 : Int) ≤ (k : Int) := by omega
          have hk1 : (k : Int) < (n : Int) := by omega
          obtain ⟨b, off, hbo, hbl, hbc⟩ := HH.out.2.2.1 (by omega)
          rw [hbo]
          obtain ⟨z, hz⟩ : ∃ z, Z k = z := ⟨_, rfl⟩
          have z0 : w.cell? ⟨b, off + k, none⟩ = some (.int .u8 (Z k)) := hbc k hkn
          have hzr := HH.out.2.2.2.2 k hkn
          rw [hz] at z0 hzr
          have HZ := Lib.hid (And.intro hbl z0)
          have hzr0 : 0 ≤ z := hzr.1
          have hzr1 : z ≤ 255 := hzr.2
          have hzr2 : 0 ≤ z % 3 := by omega
          have hzr3 : z % 3 < 3 := by omega
          clear hbc hbo hbl z0 hz hzr
          obtain ⟨m, hm⟩ : ∃ m, n - k = m + 1 := ⟨n - k - 1, by omega⟩
          have hA1 := HA.out
          rw [hm] at hA1
          have HX := Lib.hid hm
          have HA1 := Lib.hid hA1
          have HUu := hA1.ulen
          have cE : Calls Tryd.prog 33 #[.pointer (some ⟨B.mb, 0, none⟩)] wr fun e W' => (∃ v, e = .returned v ∧ W'.ownsRow wr.heap.size 86 8 v u.evs.length (u.evs.flatMap Evt.cells)) ∧ Below wr.heap.size wr W' :=
            HT.out.swap.tells (R := fun e W' => ∃ v, e = .returned v ∧ W'.ownsRow wr.heap.size 86 8 v u.evs.length (u.evs.flatMap Evt.cells)) (fun oa h => (tevents_any B u oa wr h (by have := hA1.uc.evs; omega)).mono fun e W' ⟨v, h1, h2, h3⟩ => ⟨⟨v, h1, h2⟩, h3⟩)
          have HUL := Lib.hid HUu
          clear hA1 HUu
          go_wp2_with fail
          with_reducible refine cE.mono ?_
          rintro e W5 ⟨⟨ev, rfl, hev⟩, hb5⟩
          obtain ⟨eA, ecap, rfl, _, _⟩ := own_sle Evt.cells (fun _ => rfl) evq u.evs hev
          obtain ⟨ne, hne⟩ : ∃ ne, u.evs.length = ne := ⟨_, rfl⟩
          have hne9 : ne ≤ 1000000000 := by rw [← hne]; have := HA1.out.uc.evs; omega
          rw [hne]
          have HNE := Lib.hid hne
          have HT5 := Lib.hid (HT.out.below hb5)
          have HUu := HUL.out
          have cT : Calls Tryd.prog 37 #[.pointer (some ⟨B.mb, 0, none⟩)] W5 fun e W' => (∃ v, e = .returned v ∧ W'.ownsRow W5.heap.size 25 10 v u.ths.length (u.ths.flatMap Th.cells)) ∧ Below W5.heap.size W5 W' :=
            HT5.out.swap.tells (R := fun e W' => ∃ v, e = .returned v ∧ W'.ownsRow W5.heap.size 25 10 v u.ths.length (u.ths.flatMap Th.cells)) (fun oa h => (tthreads_any B u oa W5 h (by rw [HUu]; omega)).mono fun e W' ⟨v, h1, h2, h3⟩ => ⟨⟨v, h1, h2⟩, h3⟩)
          clear cE hev hb5 hne HUu
          go_wp2_with fail
          with_reducible refine cT.mono ?_
          rintro e W6 ⟨⟨tv, rfl, htv⟩, hb6⟩
          obtain ⟨tA, tc, rfl, _, hst⟩ := own_sle Th.cells th_len10 tha u.ths htv
          obtain ⟨tb, tof, rfl, htl, htt⟩ := hst (by rw [HUL.out]; omega)
          obtain ⟨pc, hpc⟩ : ∃ pc, (u.ths.getD 0 tha).pc = pc := ⟨_, rfl⟩
          have c0 : W6.cell? ⟨tb, tof, none⟩ = some (.int .i64 pc) := by
            have := htt 0 (by rw [HUL.out]; omega) 0 (.int .i64 pc) (by rw [← hpc]; rfl)
            simpa using this
          have HT6 := Lib.hid (HT5.out.below hb6)
          have HPC := Lib.hid hpc
          rw [HUL.out]
          have cP : Calls Tryd.prog 36 #[.pointer (some ⟨B.mb, 0, none⟩), .agg #[.int .i64 0, .int .i64 0]] W6 fun e W' => (∃ v, e = .returned v) ∧ TwoM tsoL scL B C (tPick B u (0, 0)) s w.heap.size w W' :=
            HT6.out.swap.calls (R := fun e => ∃ v, e = .returned v) (fun oa h _ => tpick_any B HM.out.1 HM.out.2.2.1.r16 u HA1.out.uo (HA1.out.uc.lessN (by omega)) oa W6 h (HH.out.1.step HT6.out.bel) (0, 0))
          clear cT htv hst htt hb6 hpc htl
          go_wp2_with fail
          with_reducible refine cP.mono ?_
          rintro e W7 ⟨⟨v7, rfl⟩, hT7⟩
          have HSt := Lib.hid (HA1.out.step HM.out.2.2.1 HM.out.2.1 HM.out.1 HM.out.2.2.2.1)
          obtain ⟨u7, hu7⟩ : ∃ u7, tPick B u (0, 0) = u7 := ⟨_, rfl⟩
          have hT7' := hT7.swap
          have hSt := HSt.out
          rw [hu7] at hT7' hSt
          have hc7 : mCan B 3 u7 ∧ u7.ths.length = 1 := by
            rcases hSt with ⟨_, _, _, q⟩ | ⟨_, q⟩
            · exact ⟨q.uc.lessN (by omega), q.ulen⟩
            · exact ⟨q.uc.lessN (by omega), q.ulen⟩
          have HT7 := Lib.hid hT7'
          have HU7 := Lib.hid (And.intro hSt hc7)
          have cE : Calls Tryd.prog 33 #[.pointer (some ⟨B.mb, 0, none⟩)] W7 fun e W' => (∃ v, e = .returned v ∧ W'.ownsRow W7.heap.size 86 8 v u7.evs.length (u7.evs.flatMap Evt.cells)) ∧ Below W7.heap.size W7 W' :=
            HT7.out.swap.tells (R := fun e W' => ∃ v, e = .returned v ∧ W'.ownsRow W7.heap.size 86 8 v u7.evs.length (u7.evs.flatMap Evt.cells)) (fun oa h => (tevents_any B u7 oa W7 h (by have := hc7.1.evs; omega)).mono fun e W' ⟨v, h1, h2, h3⟩ => ⟨⟨v, h1, h2⟩, h3⟩)
          clear cP hT7 hT7' HSt hSt hu7 hc7 c0
          go_wp2_with fail
          with_reducible refine cE.mono ?_
          rintro e W8 ⟨⟨ev, rfl, hev⟩, hb8⟩
          obtain ⟨fA, fcap, rfl, _, hsf⟩ := own_sle Evt.cells (fun _ => rfl) evq u7.evs hev
          obtain ⟨nf, hnf⟩ : ∃ nf, u7.evs.length = nf := ⟨_, rfl⟩
          have hnf9 : nf ≤ 1000000000 := by rw [← hnf]; have := HU7.out.2.1.evs; omega
          rw [hnf]
          have hT8 := HT7.out.below hb8
          have HT8 := Lib.hid hT8
          have HSF := Lib.hid (And.intro hnf hsf)
          clear cE hev hb8 hnf hT8 hsf
          by_cases hstay : AlnP C B m s u7 ∧ nf ≠ ne ∧ (∃ l x, u7.evs = l ++ [x] ∧ x.kind = 3) ∧ (u7.ths.getD 0 tha).pc = pc
          · obtain ⟨hAl, hnn, ⟨le, x, hle, hx3⟩, hpc7⟩ := hstay
            have hlen : nf = le.length + 1 := by rw [← HSF.out.1, hle]; simp
            have hnn' : ((nf : Int) == (ne : Int)) = false := by simp; omega
            obtain ⟨fb, fo, rfl, hfl, hff⟩ := HSF.out.2 (by rw [HSF.out.1]; omega)
            obtain ⟨nq, hnq, i2⟩ : ∃ nq : Nat, nf = nq + 1 ∧ (nf : Int) - 1 = (nq : Int) := ⟨nf - 1, by omega, by omega⟩
            have x0 : W8.cell? ⟨fb, fo + nq * 8, none⟩ = some (.int .i64 3) := by
              have := hff nq (by rw [HSF.out.1]; omega) 0 (.int .i64 3) (by
                rw [hle, show nq = le.length by omega]
                simp [List.getD_eq_getElem?_getD, List.getElem?_append_right, Evt.cells, hx3])
              rw [Nat.add_zero] at this
              exact this
            have i0 : (0 : Int) ≤ (nq : Int) := by omega
            have i1 : (nq : Int) < (nf : Int) := by omega
            have HUu7 := HU7.out.2.2
            have cT : Calls Tryd.prog 37 #[.pointer (some ⟨B.mb, 0, none⟩)] W8 fun e W' => (∃ v, e = .returned v ∧ W'.ownsRow W8.heap.size 25 10 v u7.ths.length (u7.ths.flatMap Th.cells)) ∧ Below W8.heap.size W8 W' :=
              HT8.out.swap.tells (R := fun e W' => ∃ v, e = .returned v ∧ W'.ownsRow W8.heap.size 25 10 v u7.ths.length (u7.ths.flatMap Th.cells)) (fun oa h => (tthreads_any B u7 oa W8 h (by rw [HUu7]; omega)).mono fun e W' ⟨v, h1, h2, h3⟩ => ⟨⟨v, h1, h2⟩, h3⟩)
            have HK := Lib.hid (And.intro hAl (And.intro hpc7 hnq))
            clear hAl hpc7 hle hx3 hff hfl hlen hnn HUu7 hnq
            go_wp2_with fail
            with_reducible refine cT.mono ?_
            rintro e W9 ⟨⟨tv, rfl, htv⟩, hb9⟩
            obtain ⟨gA, gc, rfl, _, hst⟩ := own_sle Th.cells th_len10 tha u7.ths htv
            obtain ⟨gb, gof, rfl, htl, htt⟩ := hst (by rw [HU7.out.2.2]; omega)
            have c0 : W9.cell? ⟨gb, gof, none⟩ = some (.int .i64 pc) := by
              have := htt 0 (by rw [HU7.out.2.2]; omega) 0 (.int .i64 pc) (by rw [← HK.out.2.1]; rfl)
              simpa using this
            have HT9 := Lib.hid (HT8.out.below hb9)
            rw [HU7.out.2.2]
            clear cT htv hst htt hb9 htl x0
            go_wp2
            obtain ⟨s9, hs9⟩ : ∃ s9, s = s9 := ⟨_, rfl⟩
            have HA9 : Hid (AlnP C B m s9 u7) := Lib.hid (hs9 ▸ HK.out.1)
            have HT9' : Hid (TwoM scL tsoL C B s9 u7 w.heap.size w W9) := Lib.hid (hs9 ▸ HT9.out)
            clear hs9
            obtain ⟨wo, hwo⟩ : ∃ wo : World, wo = wr := ⟨_, rfl⟩
            clear hwo
            go_loopw [16] (fun j wr => ∃ (m2 : Nat) (u9 : Mst), j = .int .i64 (m2 : Int) ∧ Hid (AlnP C B m s9 u9) ∧ Hid (TwoM scL tsoL C B s9 u9 w.heap.size w wr)) (fun j _ => 3 - (intOf j).toNat)
            case atStart => exact ⟨0, u7, rfl, HA9, HT9'⟩
            case round =>
              obtain ⟨m2, u9, rfl, HA8, HT8'⟩ := hrel
              have z1 := keepAt HT8'.out.bel HZ.out.1 HZ.out.2
              by_cases hj : (m2 : Int) < z % 3
              · have hm3 : (m2 : Int) < 3 := by omega
                have cF : Calls Tryd.prog 36 #[.pointer (some ⟨B.mb, 0, none⟩), .agg #[.int .i64 1, .int .i64 0]] wr fun e W' => (∃ v, e = .returned v) ∧ TwoM tsoL scL B C (tflush 0 u9) s9 w.heap.size w W' :=
                  HT8'.out.swap.calls (R := fun e => ∃ v, e = .returned v) (fun oa h _ => by
                    have := tpick_any B HM.out.1 HM.out.2.2.1.r16 u9 HA8.out.uo (HA8.out.uc.lessN (by omega)) oa wr h (HH.out.1.step HT8'.out.bel) (1, 0)
                    rw [HA8.out.flushPick] at this
                    exact this)
                go_wp2_with fail
                with_reducible refine cF.mono ?_
                rintro e W10 ⟨⟨v10, rfl⟩, hT10⟩
                have HT10 := Lib.hid hT10.swap
                clear cF hT10 z1
                go_wp2
                go_roundw
                case rel => exact ⟨m2 + 1, tflush 0 u9, by go_num, Lib.hid HA8.out.flush, HT10⟩
                case measure => simp [intOf]; omega
              · go_wp2
                go_roundw
                case rel => exact ⟨k + 1, s9, u9, by omega, by go_num, Lib.hid (by rw [show n - (k + 1) = m from by have := HX.out; omega]; exact HA8.out), HT8'⟩
                case measure => simp [intOf]; omega
          · have hB : (nf = ne ∨ (nf ≠ ne ∧ ∃ l x, u7.evs = l ++ [x] ∧ x.kind ≠ 3)) ∧ AlnP C B m (sPick C s (0, 0)) u7 := by
              rcases HU7.out.1 with ⟨a1, a2, a3, a4⟩ | ⟨a1, a2⟩
              · rw [HSF.out.1, HNE.out] at a1
                exact absurd ⟨a4, a1, a2, a3.trans HPC.out⟩ hstay
              · refine ⟨?_, a2⟩
                rw [HSF.out.1, HNE.out] at a1
                rcases a1 with q | q
                · exact .inl q
                · by_cases e : nf = ne
                  · exact .inl e
                  · exact .inr ⟨e, q⟩
            have HB := Lib.hid hB.2
            clear hstay
            rcases hB.1 with hnn | ⟨hnn, le, x, hle, hx3⟩
            · clear hB
              subst hnn
              have cS : Calls Tryd.prog 23 #[.pointer (some ⟨C.mb, 0, none⟩), .agg #[.int .i64 0, .int .i64 0]] W8 fun e W' => (∃ v, e = .returned v) ∧ TwoM scL tsoL C B (sPick C s (0, 0)) u7 w.heap.size w W' :=
                HT8.out.calls (R := fun e => ∃ v, e = .returned v) (fun oa h _ => spick_any C HM.out.2.1 s HA1.out.so (HA1.out.sc.lessN (by omega)) oa W8 h (HH.out.1.step HT8.out.bel) (0, 0))
              go_wp2_with fail
              with_reducible refine cS.mono ?_
              rintro e W9 ⟨⟨v9, rfl⟩, hT9⟩
              have HT9 := Lib.hid hT9
              clear cS hT9
              go_wp2
              obtain ⟨s9, hs9⟩ : ∃ s9, sPick C s (0, 0) = s9 := ⟨_, rfl⟩
              have HA9 : Hid (AlnP C B m s9 u7) := Lib.hid (hs9 ▸ HB.out)
              have HT9' : Hid (TwoM scL tsoL C B s9 u7 w.heap.size w W9) := Lib.hid (hs9 ▸ HT9.out)
              clear hs9
              obtain ⟨wo, hwo⟩ : ∃ wo : World, wo = wr := ⟨_, rfl⟩
              clear hwo
              go_loopw [16] (fun j wr => ∃ (m2 : Nat) (u9 : Mst), j = .int .i64 (m2 : Int) ∧ Hid (AlnP C B m s9 u9) ∧ Hid (TwoM scL tsoL C B s9 u9 w.heap.size w wr)) (fun j _ => 3 - (intOf j).toNat)
              case atStart => exact ⟨0, u7, rfl, HA9, HT9'⟩
              case round =>
                obtain ⟨m2, u9, rfl, HA8, HT8'⟩ := hrel
                have z1 := keepAt HT8'.out.bel HZ.out.1 HZ.out.2
                by_cases hj : (m2 : Int) < z % 3
                · have hm3 : (m2 : Int) < 3 := by omega
                  have cF : Calls Tryd.prog 36 #[.pointer (some ⟨B.mb, 0, none⟩), .agg #[.int .i64 1, .int .i64 0]] wr fun e W' => (∃ v, e = .returned v) ∧ TwoM tsoL scL B C (tflush 0 u9) s9 w.heap.size w W' :=
                    HT8'.out.swap.calls (R := fun e => ∃ v, e = .returned v) (fun oa h _ => by
                      have := tpick_any B HM.out.1 HM.out.2.2.1.r16 u9 HA8.out.uo (HA8.out.uc.lessN (by omega)) oa wr h (HH.out.1.step HT8'.out.bel) (1, 0)
                      rw [HA8.out.flushPick] at this
                      exact this)
                  go_wp2_with fail
                  with_reducible refine cF.mono ?_
                  rintro e W10 ⟨⟨v10, rfl⟩, hT10⟩
                  have HT10 := Lib.hid hT10.swap
                  clear cF hT10 z1
                  go_wp2
                  go_roundw
                  case rel => exact ⟨m2 + 1, tflush 0 u9, by go_num, Lib.hid HA8.out.flush, HT10⟩
                  case measure => simp [intOf]; omega
                · go_wp2
                  go_roundw
                  case rel => exact ⟨k + 1, s9, u9, by omega, by go_num, Lib.hid (by rw [show n - (k + 1) = m from by have := HX.out; omega]; exact HA8.out), HT8'⟩
                  case measure => simp [intOf]; omega
            · clear hB
              have hlen : nf = le.length + 1 := by rw [← HSF.out.1, hle]; simp
              have hnn' : ((nf : Int) == (ne : Int)) = false := by simp; omega
              obtain ⟨fb, fo, rfl, hfl, hff⟩ := HSF.out.2 (by rw [HSF.out.1]; omega)
              obtain ⟨nq, hnq, i2⟩ : ∃ nq : Nat, nf = nq + 1 ∧ (nf : Int) - 1 = (nq : Int) := ⟨nf - 1, by omega, by omega⟩
              obtain ⟨kd, hkd⟩ : ∃ kd, x.kind = kd := ⟨_, rfl⟩
              rw [hkd] at hx3
              have x0 : W8.cell? ⟨fb, fo + nq * 8, none⟩ = some (.int .i64 kd) := by
                have := hff nq (by rw [HSF.out.1]; omega) 0 (.int .i64 kd) (by
                  rw [hle, show nq = le.length by omega]
                  simp [List.getD_eq_getElem?_getD, List.getElem?_append_right, Evt.cells, hkd])
                rw [Nat.add_zero] at this
                exact this
              have i0 : (0 : Int) ≤ (nq : Int) := by omega
              have i1 : (nq : Int) < (nf : Int) := by omega
              have hx3' : (kd != 3) = true := by simpa using hx3
              clear hle hx3 hff hfl hlen hnn hnq hkd
              have cS : Calls Tryd.prog 23 #[.pointer (some ⟨C.mb, 0, none⟩), .agg #[.int .i64 0, .int .i64 0]] W8 fun e W' => (∃ v, e = .returned v) ∧ TwoM scL tsoL C B (sPick C s (0, 0)) u7 w.heap.size w W' :=
                HT8.out.calls (R := fun e => ∃ v, e = .returned v) (fun oa h _ => spick_any C HM.out.2.1 s HA1.out.so (HA1.out.sc.lessN (by omega)) oa W8 h (HH.out.1.step HT8.out.bel) (0, 0))
              go_wp2_with fail
              with_reducible refine cS.mono ?_
              rintro e W9 ⟨⟨v9, rfl⟩, hT9⟩
              have HT9 := Lib.hid hT9
              clear cS hT9
              go_wp2
              obtain ⟨s9, hs9⟩ : ∃ s9, sPick C s (0, 0) = s9 := ⟨_, rfl⟩
              have HA9 : Hid (AlnP C B m s9 u7) := Lib.hid (hs9 ▸ HB.out)
              have HT9' : Hid (TwoM scL tsoL C B s9 u7 w.heap.size w W9) := Lib.hid (hs9 ▸ HT9.out)
              clear hs9
              obtain ⟨wo, hwo⟩ : ∃ wo : World, wo = wr := ⟨_, rfl⟩
              clear hwo
              go_loopw [16] (fun j wr => ∃ (m2 : Nat) (u9 : Mst), j = .int .i64 (m2 : Int) ∧ Hid (AlnP C B m s9 u9) ∧ Hid (TwoM scL tsoL C B s9 u9 w.heap.size w wr)) (fun j _ => 3 - (intOf j).toNat)
              case atStart => exact ⟨0, u7, rfl, HA9, HT9'⟩
              case round =>
                obtain ⟨m2, u9, rfl, HA8, HT8'⟩ := hrel
                have z1 := keepAt HT8'.out.bel HZ.out.1 HZ.out.2
                by_cases hj : (m2 : Int) < z % 3
                · have hm3 : (m2 : Int) < 3 := by omega
                  have cF : Calls Tryd.prog 36 #[.pointer (some ⟨B.mb, 0, none⟩), .agg #[.int .i64 1, .int .i64 0]] wr fun e W' => (∃ v, e = .returned v) ∧ TwoM tsoL scL B C (tflush 0 u9) s9 w.heap.size w W' :=
                    HT8'.out.swap.calls (R := fun e => ∃ v, e = .returned v) (fun oa h _ => by
                      have := tpick_any B HM.out.1 HM.out.2.2.1.r16 u9 HA8.out.uo (HA8.out.uc.lessN (by omega)) oa wr h (HH.out.1.step HT8'.out.bel) (1, 0)
                      rw [HA8.out.flushPick] at this
                      exact this)
                  go_wp2_with fail
                  with_reducible refine cF.mono ?_
                  rintro e W10 ⟨⟨v10, rfl⟩, hT10⟩
                  have HT10 := Lib.hid hT10.swap
                  clear cF hT10 z1
                  go_wp2
                  go_roundw
                  case rel => exact ⟨m2 + 1, tflush 0 u9, by go_num, Lib.hid HA8.out.flush, HT10⟩
                  case measure => simp [intOf]; omega
                · go_wp2
                  go_roundw
                  case rel => exact ⟨k + 1, s9, u9, by omega, by go_num, Lib.hid (by rw [show n - (k + 1) = m from by have := HX.out; omega]; exact HA8.out), HT8'⟩
                  case measure => simp [intOf]; omega
        · obtain rfl : k = n := by omega
          have hk1 : ¬ (k : Int) < (k : Int) := by omega
          have HA0 : Hid (AlnP C B 0 s u) := Lib.hid (by have := HA.out; rw [Nat.sub_self] at this; exact this)
          have HUu := HA0.out.ulen
          obtain ⟨X, hX⟩ : ∃ X, s.ths.getD 0 tha = X := ⟨_, rfl⟩
          have cS : Calls Tryd.prog 24 #[.pointer (some ⟨C.mb, 0, none⟩), .int .i64 0] wr fun e W' => (e = .returned (.agg (thArr X))) ∧ Below wr.heap.size wr W' :=
            HT.out.tells (R := fun e _ => e = .returned (.agg (thArr X))) (fun oa h => by rw [← hX]; exact sthread_any C s oa wr h 0 (by rw [HA0.out.len]; omega))
          have HXX := Lib.hid hX
          have HUL := Lib.hid HUu
          clear hX HUu
          go_wp2_with fail
          with_reducible refine cS.mono ?_
          rintro e W5 ⟨rfl, hb5⟩
          have hT5 := HT.out.below hb5
          have HUu := HUL.out
          have cT : Calls Tryd.prog 37 #[.pointer (some ⟨B.mb, 0, none⟩)] W5 fun e W' => (∃ v, e = .returned v ∧ W'.ownsRow W5.heap.size 25 10 v u.ths.length (u.ths.flatMap Th.cells)) ∧ Below W5.heap.size W5 W' :=
            hT5.swap.tells (R := fun e W' => ∃ v, e = .returned v ∧ W'.ownsRow W5.heap.size 25 10 v u.ths.length (u.ths.flatMap Th.cells)) (fun oa h => (tthreads_any B u oa W5 h (by rw [HUu]; omega)).mono fun e W' ⟨v, h1, h2, h3⟩ => ⟨⟨v, h1, h2⟩, h3⟩)
          have HT5 := Lib.hid hT5
          clear cS hb5 hT5 HUu
          go_wp2_with fail
          with_reducible refine cT.mono ?_
          rintro e W6 ⟨⟨tv, rfl, htv⟩, hb6⟩
          obtain ⟨tA, tc, rfl, _, hst⟩ := own_sle Th.cells th_len10 tha u.ths htv
          obtain ⟨tb, tof, rfl, htl, htt⟩ := hst (by rw [HUL.out]; omega)
          have hra : W6.rangeAt tb tof X.cells := fun j v hv => by
            have := htt 0 (by rw [HUL.out]; omega) j v (by show (u.ths.getD 0 tha).cells[j]? = some v; rw [← HA0.out.vr.ths, HXX.out]; exact hv)
            simpa using this
          have hq : ∀ w, (binOp .neq 25 (.agg (thArr X)) (.agg X.cells.toArray)).run Tryd.prog w = .ok (.bool false) w := fun w => th_neq X w
          have HT6 := Lib.hid (HT5.out.below hb6)
          rw [HUL.out]
          clear cT htv hst htt hb6 htl
          go_wp2_with (refine wpList_load_mid rfl 25 (.tmp 123) rfl tb tof rfl X.cells _ hra Tryd.underlying25 rfl th_infoL ?_)
          clear hq hra
          obtain ⟨wo, hwo⟩ : ∃ wo : World, wo = wr := ⟨_, rfl⟩
          clear hwo
          go_loopw [17] (fun j wr => ∃ (m2 : Nat) (u9 : Mst), m2 ≤ 20 ∧ j = .int .i64 (m2 : Int) ∧ Hid (AlnP C B 0 s u9) ∧ Hid (TwoM scL tsoL C B s u9 w.heap.size w wr) ∧ Hid ((u9.bufs.getD 0 []).length ≤ 16 - m2)) (fun j _ => 20 - (intOf j).toNat)
          case atStart => exact ⟨0, u, Nat.zero_le _, rfl, HA0, HT6, Lib.hid (by
            obtain ⟨oa, ob, _, h2, _⟩ := HT6.out.ex
            exact tbuf_le h2 (t := 0) (by rw [HA0.out.uo.bl, ← HM.out.2.2.1.n, HM.out.2.2.2.1]; omega))⟩
          case round =>
            obtain ⟨m2, u9, hm20, rfl, HA8, HT8, HL8⟩ := hrel
            by_cases hj : m2 < 20
            · have hj' : (m2 : Int) < 20 := by omega
              have cF : Calls Tryd.prog 36 #[.pointer (some ⟨B.mb, 0, none⟩), .agg #[.int .i64 1, .int .i64 0]] wr fun e W' => (∃ v, e = .returned v) ∧ TwoM tsoL scL B C (tflush 0 u9) s w.heap.size w W' :=
                HT8.out.swap.calls (R := fun e => ∃ v, e = .returned v) (fun oa h _ => by
                  have := tpick_any B HM.out.1 HM.out.2.2.1.r16 u9 HA8.out.uo (HA8.out.uc.lessN (by omega)) oa wr h (HH.out.1.step HT8.out.bel) (1, 0)
                  rw [HA8.out.flushPick] at this
                  exact this)
              go_wp2_with fail
              with_reducible refine cF.mono ?_
              rintro e W10 ⟨⟨v10, rfl⟩, hT10⟩
              have HT10 := Lib.hid hT10.swap
              clear cF hT10
              go_wp2
              go_roundw
              case rel => exact ⟨m2 + 1, tflush 0 u9, by omega, by go_num, Lib.hid HA8.out.flush, HT10, Lib.hid (by have h1 := flush_le 0 u9; have h2 := HL8.out; omega)⟩
              case measure => simp [intOf]; omega
            · obtain rfl : m2 = 20 := by omega
              have hnil : u9.bufs.getD 0 [] = [] := List.length_eq_zero_iff.1 (by have := HL8.out; omega)
              have hmem : s.mem = u9.mem := (show VE B 0 s u9 from ⟨HA8.out.vr, hnil⟩).mem
              have hmu : u9.mem.length = 6 := by rw [HA8.out.vr.ml]; exact HM.out.2.2.2.2
              have hms : s.mem.length = 6 := by rw [hmem]; exact hmu
              have HMU := Lib.hid (And.intro hmu (And.intro hms hmem))
              have cX : Calls Tryd.prog 40 #[.pointer (some ⟨C.mb, 0, none⟩)] wr fun e W' => (∃ v, e = .returned v ∧ W'.ownsRow wr.heap.size 22 1 v s.mem.length (s.mem.map fun z => .int .u32 z)) ∧ Below wr.heap.size wr W' :=
                HT8.out.tells (R := fun e W' => ∃ v, e = .returned v ∧ W'.ownsRow wr.heap.size 22 1 v s.mem.length (s.mem.map fun z => .int .u32 z)) (fun oa h => (smem_any C s oa wr h (by rw [hms]; omega)).mono fun e W' ⟨v, h1, h2, h3⟩ => ⟨⟨v, h1, h2⟩, h3⟩)
              clear hmu hms hmem hnil
              go_wp2_with fail
              with_reducible refine cX.mono ?_
              rintro e W8 ⟨⟨mv, rfl, hmv⟩, hb8⟩
              rw [HMU.out.2.1] at hmv
              obtain ⟨mA, mc, rfl, _, hmx⟩ := own_sl hmv
              have hT8 := HT8.out.below hb8
              have cY : Calls Tryd.prog 38 #[.pointer (some ⟨B.mb, 0, none⟩)] W8 fun e W' => (∃ v, e = .returned v ∧ W'.ownsRow W8.heap.size 22 1 v u9.mem.length (u9.mem.map fun z => .int .u32 z)) ∧ Below W8.heap.size W8 W' :=
                hT8.swap.tells (R := fun e W' => ∃ v, e = .returned v ∧ W'.ownsRow W8.heap.size 22 1 v u9.mem.length (u9.mem.map fun z => .int .u32 z)) (fun oa h => (tmem_any B u9 oa W8 h (by rw [HMU.out.1]; omega)).mono fun e W' ⟨v, h1, h2, h3⟩ => ⟨⟨v, h1, h2⟩, h3⟩)
              have H8 := Lib.hid (And.intro hT8 hmx)
              clear cX hmv hb8 hT8 hmx
              go_wp2_with fail
              with_reducible refine cY.mono ?_
              rintro e W9 ⟨⟨nv, rfl, hnv⟩, hb9⟩
              rw [HMU.out.1] at hnv
              obtain ⟨nA, nc, rfl, _, hnx⟩ := own_sl hnv
              have H9 := Lib.hid (And.intro (H8.out.1.below hb9) (And.intro (H8.out.2.step hb9) hnx))
              clear cY hnv hb9 hnx
              go_wp2
              obtain ⟨wo2, hwo⟩ : ∃ wo : World, wo = wr := ⟨_, rfl⟩
              clear hwo
              go_loopw [20] (fun i wr => ∃ k : Nat, k ≤ 6 ∧ i = .int .i64 (k : Int) ∧ Below W9.heap.size W9 wr) (fun i _ => 6 - (intOf i).toNat)
              case atStart => exact ⟨0, Nat.zero_le _, rfl, Below.refl _ _⟩
              case round =>
                obtain ⟨k, hk, rfl, hB⟩ := hrel
                by_cases hkn : k < 6
                · have hk0 : (0 : Int) ≤ (k : Int) := by omega
                  have hk1 : (k : Int) < 6 := by omega
                  have hk2 : ¬ (6 : Int) ≤ (k : Int) := by omega
                  obtain ⟨xb, xo, rfl, hxl, hxx⟩ := (H9.out.2.1.step hB) (by omega)
                  obtain ⟨yb, yo, rfl, hyl, hyy⟩ := (H9.out.2.2.step hB) (by omega)
                  obtain ⟨z, hz⟩ : ∃ z, s.mem.getD k 0 = z := ⟨_, rfl⟩
                  have e1 : (s.mem.map fun z => Value.int .u32 z).getD k undef = .int .u32 z := by
                    rw [← hz]
                    simp [List.getD_eq_getElem?_getD, List.getElem?_eq_getElem (show k < s.mem.length by rw [HMU.out.2.1]; exact hkn)]
                  have hx9 : wr.cell? ⟨xb, xo + k, none⟩ = some (.int .u32 z) := by
                    rw [← e1]
                    exact hxx k (by omega)
                  have hy9 : wr.cell? ⟨yb, yo + k, none⟩ = some (.int .u32 z) := by
                    rw [← e1, HMU.out.2.2]
                    exact hyy k (by omega)
                  have HB := Lib.hid hB
                  clear hxx hyy hz e1 hxl hyl hB
                  go_upto_region 31 with fail
                  go_quiet (fail)
                  go_wp2
                  go_roundw
                  case rel => exact ⟨k + 1, by omega, by go_num, HB.out.trans ⟨rfl, rfl, rfl, Nat.le_refl _, fun _ _ => rfl⟩⟩
                  case measure => simp [intOf]; omega
                · obtain rfl : k = 6 := by omega
                  have H10 := Lib.hid (H9.out.1.below hB)
                  clear hB
                  go_wp2
                  go_ret
                  exact ⟨rfl, H10.out.bel⟩
end Go.Proofs.YtjmnogpnjombgaaDoor
