/- TsoTotal. -/
import Derived.Test.YtjmnogpnjombgaaDoorTsB3
import Derived.Test.YtjmnogpnjombgaaDoorTsTotP
import Derived.Test.YtjmnogpnjombgaaDoorTsBuf
import Derived.Test.YtjmnogpnjombgaaDoorCodeRead
import Derived.Test.YtjmnogpnjombgaaDoorPickRead
namespace Go.Proofs.YtjmnogpnjombgaaDoor
open Go.ChangeShapes Go.WideShapes Go.ChangeAt Go.RowKit Go.Deep
set_option linter.unusedVariables false
set_option maxRecDepth 100000
set_option linter.unusedSimpArgs false

theorem rdO_zero {Z : Nat → Int} {len : Nat} {n e : Int} (hO : RdO Z len n e) (he : e = 0) : ∃ t j, Chk (rdP Z len) t j 0 := by
  cases hO with
  | tiny _ => exact absurd he (by decide)
  | head _ _ => exact absurd he (by decide)
  | short _ _ _ => exact absurd he (by decide)
  | long _ _ _ _ => exact absurd he (by decide)
  | form t j e _ _ _ _ h => exact ⟨t, j, he ▸ h⟩
def ofY (Y : Nat → Int) (i : Nat) : Int × Int := (Y i / 8 % 3, Y i % 8)
theorem picks_sle {W : World} {g : Nat} {cs : Array Value} {n : Nat} {Y : Nat → Int} (hb : Blk W g 67 cs) (h : ∀ i, i < n → cs[i * 2]? = some (.int .i64 (Y i / 8 % 3)) ∧ cs[i * 2 + 1]? = some (.int .i64 (Y i % 8))) : SlE W (some ⟨g, 0, none⟩) n 2 (fun i => pkc (ofY Y i)) := fun hn => ⟨g, 0, rfl, hb.lt, fun i hi j u hu => by
  have hj : j < 2 := (List.getElem?_eq_some_iff.1 hu).1
  rw [Nat.zero_add, hb.cell]
  rcases (by omega : j = 0 ∨ j = 1) with rfl | rfl
  · exact (h i hi).1.trans hu
  · exact (h i hi).2.trans hu⟩

set_option maxHeartbeats 8000000 in
theorem tsoTotal_true (A : Option Addr) (len cap : Nat) (Z : Nat → Int) (hlc : len ≤ cap) (hz : ∀ i, i < len → 0 ≤ Z i ∧ Z i ≤ 255) (A2 : Option Addr) (n cap2 : Nat) (Y : Nat → Int) (hy : ∀ i, i < n → 0 ≤ Y i ∧ Y i ≤ 255)
    (w : World) (hT : Tab w) (hs : Sl w A len (fun i => .int .u8 (Z i))) (hs2 : Sl w A2 n (fun i => .int .u8 (Y i))) :
    Calls Tryd.prog 13 #[.slice A len cap, .slice A2 n cap2] w fun e w' => e = .returned (.bool true) ∧ Below w.heap.size w w' := by
  have cA := awake_any w hT
  have hN := hT.1
  have HH := Lib.hid (And.intro hT (And.intro hs (And.intro hs2 (And.intro hz (And.intro hy hlc)))))
  clear hT hs hs2 hz hy hlc
  go_enter Tryd.func13, Tryd.ntmps13
  go_wp2_with fail
  with_reducible refine cA.mono ?_
  rintro e W1 ⟨rfl, hB1⟩
  have HB1 := Lib.hid hB1
  clear cA hB1
  by_cases hsm : len ≤ 3200 ∧ n ≤ 600
  case neg =>
    have cA := awake_any W1 (HH.out.1.step HB1.out)
    rcases Decidable.em (len ≤ 3200) with hr | hr
    case' inl =>
      have h1 : ¬ (3200 : Int) < (len : Int) := by omega
      have h2 : (600 : Int) < (n : Int) := by
        have : ¬ n ≤ 600 := fun h => hsm ⟨hr, h⟩
        omega
    case' inr =>
      have h1 : (3200 : Int) < (len : Int) := by omega
    all_goals
      clear hsm hr
      go_wp2_with fail
      with_reducible refine cA.mono ?_
      rintro e W3 ⟨rfl, hB3⟩
      have HB3 := Lib.hid (step_below HB1.out hB3)
      clear cA hB3
      go_wp2
      go_ret
      exact ⟨rfl, HB3.out⟩
  case pos =>
    obtain ⟨hr, hn6⟩ := hsm
    have h1 : ¬ (3200 : Int) < (len : Int) := by omega
    have h2 : ¬ (600 : Int) < (n : Int) := by omega
    obtain ⟨rn, re, hO⟩ := rdO_some Z len
    have cR := read_any A len cap Z HH.out.2.2.2.2.2 (by omega) W1 (HH.out.1.step HB1.out) (HH.out.2.1.step HB1.out) HH.out.2.2.2.1 rn re hO
    have HO := Lib.hid hO
    have HR6 := Lib.hid (And.intro hr hn6)
    clear hO
    go_wp2_with fail
    with_reducible refine cR.mono ?_
    rintro e W2 ⟨v, rfl, hne, hpg, hB2⟩
    have HB2 := Lib.hid (step_below HB1.out hB2)
    clear cR hB2
    by_cases he : re = 0
    case neg =>
      obtain rfl := hne he
      have he' : (re != 0) = true := by simpa using he
      clear hpg hne he
      unfold zeroPg
      go_wp2
      go_ret
      exact ⟨rfl, HB2.out.alloc HB2.out.size _⟩
    case pos =>
      subst he
      obtain ⟨p, rfl, hrep, hpo, hpa⟩ := hpg rfl
      obtain ⟨tt, jj, hck⟩ := rdO_zero HO.out rfl
      have hchk := chk_rep hrep.symm hck
      have hsmall := hchk.small
      have hal := (Below.refl W2.heap.size W2).alloc (Nat.le_refl _) (.cells #[.slice p.A p.n p.cap, .slice p.mA p.m p.mcap, .int .i64 p.room] 63)
      have hq := Blk.new W2 63 #[.slice p.A p.n p.cap, .slice p.mA p.m p.mcap, .int .i64 p.room]
      have hT2 := HH.out.1.step HB2.out
      have cN := tsoNew_ok p hpo tt jj hchk (W2.alloc (.cells #[.slice p.A p.n p.cap, .slice p.mA p.m p.mcap, .int .i64 p.room] 63)) (hT2.step hal) (hpa.step hal)
      unfold Pg.val at cN
      obtain ⟨pb, hpb⟩ : ∃ pb, W2.heap.size = pb := ⟨_, rfl⟩
      rw [hpb] at hq
      have HP := Lib.hid (And.intro hpo (And.intro hsmall (And.intro hq (And.intro (step_below HB2.out hal) hpb))))
      clear hpg hne hrep hpa hck hchk hal hT2
      unfold Pg.val
      go_upto_region 6 with fail
      try rw [hpb]
      clear hpb hsmall
      go_wp2_with (refine wpList_load_row rfl 63 (.tmp 5) rfl _ rfl 63 #[.slice p.A p.n p.cap, .slice p.mA p.m p.mcap, .int .i64 p.room] (0, 0) _ HP.out.2.2.1 Tryd.underlying63 rfl pgz_info ?_)
      with_reducible refine cN.mono ?_
      rintro e W3 ⟨B, rfl, hNM, hro, hI, hB3⟩
      have hq3 := HP.out.2.2.1.below hB3 HP.out.2.2.1.lt
      have hBw3 := step_below HP.out.2.2.2.1 hB3
      have hMB := newM_ok hNM HP.out.2.1.2.1 HP.out.2.1.2.2.1
      have hsok := t0_ok HP.out.1 hNM
      have hr16 : B.room ≤ 16 := by rw [hro]; exact HP.out.2.1.2.2.2.2.1
      have hr1 : 1 ≤ B.room := by rw [hro]; exact HP.out.2.1.2.2.2.1
      have hscan : mCan B (3 + 3 * n) (t0 p) := t0_can HP.out.2.1.2.1 _ (by have := HR6.out.2; omega)
      have cP := pickRead_any A2 n cap2 Y W3 (by have := HR6.out.2; omega) (HH.out.2.2.1.step hBw3) HH.out.2.2.2.2.1
      have HS := Lib.hid (And.intro hNM (And.intro hMB (And.intro hsok (And.intro hr16 (And.intro hr1 (And.intro hscan (And.intro hI (And.intro hro hB3))))))))
      have HQ3 := Lib.hid (And.intro hq3 hBw3)
      clear cN hNM hro hI hB3 hq3 hBw3 hMB hsok hr16 hr1 hscan hq
      go_wp2_with fail
      with_reducible refine cP.mono ?_
      rintro e W4 ⟨cs, rfl, hblk, hcs, hcell, hB4⟩
      have hBw4 := step_below HQ3.out.2 hB4
      have hq4 := HQ3.out.1.below hB4 HQ3.out.1.lt
      have hI4 := HS.out.2.2.2.2.2.2.1.below hB4
      have cR := trun_any B HS.out.2.1 (t0 p) HS.out.2.2.2.1 HS.out.2.2.1 (some ⟨W3.heap.size, 0, none⟩) n n (ofY Y) HS.out.2.2.2.2.2.1 _ W4 hI4 (HH.out.1.step hBw4) (picks_sle hblk hcell) (fun hn b o e hb => by
        injection e with e
        injection e with e1 _ _
        have h1 := hb.2
        omega) (by have := HR6.out.2; omega)
      have HQ4 := Lib.hid (And.intro hq4 (And.intro hBw4 hB4.size))
      clear cP hblk hcs hcell hB4 hBw4 hq4 hI4
      go_wp2_with fail
      with_reducible refine cR.mono ?_
      rintro e W5 ⟨⟨u, rfl⟩, hM5⟩
      have hok5 := tRun_ok HS.out.2.1 ((List.range n).map (ofY Y)) (t0 p) HS.out.2.2.1
      have hst5 := st_run (B := B) ((List.range n).map (ofY Y)) (t0 p) (st_start p)
      have hrm5 := rm_run (B := B) ((List.range n).map (ofY Y)) (t0 p) (rm_start p (by have := HS.out.2.2.2.2.1; omega))
      obtain ⟨s4, hs4⟩ : ∃ s4, tRun B (t0 p) ((List.range n).map (ofY Y)) = s4 := ⟨_, rfl⟩
      rw [hs4] at hM5 hok5 hst5 hrm5
      have hKM := hM5.keep
      have hsz3 := HP.out.2.2.1.lt
      have hBw5 : Below w.heap.size w W5 := KeepOut.belowM hKM HQ4.out.2.1 (by have h1 := HQ4.out.2.1.size; omega) (fun i hi => by have h1 := hi.1; have h2 := HP.out.2.2.2.1.size; omega)
      have hq5 : Blk W5 pb 63 #[.slice p.A p.n p.cap, .slice p.mA p.m p.mcap, .int .i64 p.room] := hKM.blk HQ4.out.1 (fun hb => by have h1 := hb.1; have h2 := hsz3; omega)
      obtain ⟨own4, hI5⟩ := hM5.inv
      have hnt : s4.ths.length = p.n := by rw [hok5.ok.nt]; exact HS.out.1.n
      have hml : s4.mem.length = p.m := by
        obtain ⟨V, bcs, h⟩ := hI5
        rw [h.mem]; exact HS.out.1.m
      have hbl : s4.bufs.length = p.n := by rw [hok5.bl]; exact HS.out.1.n
      have cT := tthreads_any B s4 own4 W5 hI5 (by rw [hnt]; have := HP.out.2.1.2.1; omega)
      have H5 := Lib.hid (And.intro hst5 (And.intro hrm5 (And.intro hBw5 (And.intro hq5 (And.intro hI5 (And.intro hnt (And.intro hml hbl)))))))
      have hp8 := HP.out.2.1.2.1
      clear cR hM5 hs4 hok5 hst5 hrm5 hKM hsz3 hBw5 hq5 hI5 hml hbl
      rw [hnt] at cT
      clear hnt
      go_wp2_with fail
      with_reducible refine cT.mono ?_
      rintro e W6 ⟨tv, rfl, htv, hb6⟩
      obtain ⟨tA, tc, rfl, htc, hsl6⟩ := own_sle Th.cells th_len10 tha s4.ths (by rw [H5.out.2.2.2.2.2.1]; exact htv)
      rw [H5.out.2.2.2.2.2.1]
      have hI6 := H5.out.2.2.2.2.1.below hb6
      have hq6 := H5.out.2.2.2.1.below hb6 H5.out.2.2.2.1.lt
      have H6 := Lib.hid (And.intro (step_belowN H5.out.2.2.1 hb6 H5.out.2.2.1.size) (And.intro hI6 (And.intro hq6 hsl6)))
      clear cT htv hb6 hI6 hq6 hsl6
      go_wp2
      go_loopw [11] (fun i wr => ∃ k : Nat, k ≤ p.n ∧ i = .int .i64 (k : Int) ∧ Below W6.heap.size W6 wr) (fun i _ => p.n - (intOf i).toNat)
      case atStart => exact ⟨0, Nat.zero_le _, rfl, Below.refl _ _⟩
      case round =>
        obtain ⟨k, hk, rfl, hB⟩ := hrel
        by_cases hkn : k < p.n
        · have hk0 : (0 : Int) ≤ (k : Int) := by omega
          have hk1 : (k : Int) < (p.n : Int) := by omega
          obtain ⟨tb, tof, rfl, htl, hcc⟩ := H6.out.2.2.2 (by rw [H5.out.2.2.2.2.2.1]; omega)
          have hkt : k < s4.ths.length := by rw [H5.out.2.2.2.2.2.1]; exact hkn
          obtain ⟨st, hst⟩ : ∃ st, (s4.ths.getD k tha).st = st := ⟨_, rfl⟩
          have q9 := keepAt hB htl (hcc k hkt 9 (.int .i64 st) (by rw [← hst]; rfl))
          have hs3 : 0 ≤ st ∧ st ≤ 3 := by rw [← hst]; exact H5.out.1.getTh k
          have st0 : ¬ st < 0 := by omega
          have st3 : ¬ (3 : Int) < st := by omega
          have hkb : k < s4.bufs.length := by rw [H5.out.2.2.2.2.2.2.2]; exact hkn
          obtain ⟨bn, hbn⟩ : ∃ bn, (s4.bufs.getD k []).length = bn := ⟨_, rfl⟩
          have hrm : (bn : Int) ≤ p.room := by
            have := H5.out.2.1 k
            rw [hbn, HS.out.2.2.2.2.2.2.2.1] at this
            exact this
          have brm : ¬ p.room < (bn : Int) := by omega
          have hBk := Lib.hid hB
          have HF9 := Lib.hid (And.intro (show wr.drew.cell? ⟨tb, tof + k * 10 + 9, none⟩ = some (.int .i64 st) from q9) (And.intro (show tb < wr.drew.heap.size from Nat.lt_of_lt_of_le htl hB.size) (And.intro (H6.out.2.2.1.below hB H6.out.2.2.1.lt).drew (And.intro (show pb < wr.drew.heap.size from Nat.lt_of_lt_of_le H6.out.2.2.1.lt hB.size) (And.intro ((H6.out.2.1.below hB).below (below_drew wr)) (And.intro hkb (And.intro hbn (hB.drew))))))))
          clear hcc htl hst q9 hs3 hrm hB hbn
          go_upto_region 14 with fail
          refine startG (fun W' => Below wr.drew.heap.size wr.drew W') 22 (by kernel_rfl) ?_
          have HF := HF9
          clear HF9
          generalize wr.drew = W0 at HF ⊢
          have hH : Below W0.heap.size W0 W0 := Below.refl _ _
          refine takeG0 (i := 0) (v := .slice (some ⟨tb, tof, none⟩) p.n tc) rfl (by kernel_rfl) (by kernel_rfl) (by kernel_rfl) (by kernel_rfl) (fun _ _ _ h => h) (Or.inl ⟨by rfl, fun W hW => by go_simp⟩) hH ?_
          simp only [Act.put, List.getElem_toArray, List.getElem_cons_zero, List.getElem_cons_succ, List.setIfInBounds_toArray, List.set_cons_zero, List.set_cons_succ]
          refine takeG0 (i := 1) (v := .int .i64 (k : Int)) rfl (by kernel_rfl) (by kernel_rfl) (by kernel_rfl) (by kernel_rfl) (fun _ _ _ h => h) (Or.inl ⟨by rfl, fun W hW => by go_simp⟩) hH ?_
          simp only [Act.put, List.getElem_toArray, List.getElem_cons_zero, List.getElem_cons_succ, List.setIfInBounds_toArray, List.set_cons_zero, List.set_cons_succ]
          refine takeG0 (i := 2) (v := .pointer (some ⟨tb, tof + k * 10, none⟩)) rfl (by kernel_rfl) (by kernel_rfl) (by kernel_rfl) (by kernel_rfl) (fun _ _ _ h => h) (Or.inl ⟨by rfl, fun W hW => by go_simp⟩) hH ?_
          simp only [Act.put, List.getElem_toArray, List.getElem_cons_zero, List.getElem_cons_succ, List.setIfInBounds_toArray, List.set_cons_zero, List.set_cons_succ]
          refine takeG0 (i := 3) (v := .pointer (some ⟨tb, tof + k * 10 + 9, none⟩)) rfl (by kernel_rfl) (by kernel_rfl) (by kernel_rfl) (by kernel_rfl) (fun _ _ _ h => h) (Or.inl ⟨by rfl, fun W hW => by go_simp⟩) hH ?_
          simp only [Act.put, List.getElem_toArray, List.getElem_cons_zero, List.getElem_cons_succ, List.setIfInBounds_toArray, List.set_cons_zero, List.set_cons_succ]
          refine takeT (i := 4) (v := .int .i64 st) rfl (by kernel_rfl) (by kernel_rfl) (by kernel_rfl) (by kernel_rfl) (fun _ _ _ h => h) (Or.inl ⟨by rfl, fun W hW => by have q0 := keepAt hW HF.out.2.1 HF.out.1; go_simp⟩) hH ?_
          simp only [Act.put, List.getElem_toArray, List.getElem_cons_zero, List.getElem_cons_succ, List.setIfInBounds_toArray, List.set_cons_zero, List.set_cons_succ]
          refine takeG0 (i := 5) (v := .bool false) rfl (by kernel_rfl) (by kernel_rfl) (by kernel_rfl) (by kernel_rfl) (fun _ _ _ h => h) (Or.inl ⟨by rfl, fun W hW => by go_simp⟩) hH ?_
          simp only [Act.put, List.getElem_toArray, List.getElem_cons_zero, List.getElem_cons_succ, List.setIfInBounds_toArray, List.set_cons_zero, List.set_cons_succ]
          refine takeG0 (i := 6) (v := .bool false) rfl (by kernel_rfl) (by kernel_rfl) (by kernel_rfl) (by kernel_rfl) (fun _ _ _ h => h) (Or.inl ⟨by rfl, fun W hW => by go_simp⟩) hH ?_
          simp only [Act.put, List.getElem_toArray, List.getElem_cons_zero, List.getElem_cons_succ, List.setIfInBounds_toArray, List.set_cons_zero, List.set_cons_succ]
          refine takeG0 (i := 7) (v := .slice (some ⟨tb, tof, none⟩) p.n tc) rfl (by kernel_rfl) (by kernel_rfl) (by kernel_rfl) (by kernel_rfl) (fun _ _ _ h => h) (Or.inl ⟨by rfl, fun W hW => by go_simp⟩) hH ?_
          simp only [Act.put, List.getElem_toArray, List.getElem_cons_zero, List.getElem_cons_succ, List.setIfInBounds_toArray, List.set_cons_zero, List.set_cons_succ]
          refine takeG0 (i := 8) (v := .int .i64 (k : Int)) rfl (by kernel_rfl) (by kernel_rfl) (by kernel_rfl) (by kernel_rfl) (fun _ _ _ h => h) (Or.inl ⟨by rfl, fun W hW => by go_simp⟩) hH ?_
          simp only [Act.put, List.getElem_toArray, List.getElem_cons_zero, List.getElem_cons_succ, List.setIfInBounds_toArray, List.set_cons_zero, List.set_cons_succ]
          refine takeG0 (i := 9) (v := .pointer (some ⟨tb, tof + k * 10, none⟩)) rfl (by kernel_rfl) (by kernel_rfl) (by kernel_rfl) (by kernel_rfl) (fun _ _ _ h => h) (Or.inl ⟨by rfl, fun W hW => by go_simp⟩) hH ?_
          simp only [Act.put, List.getElem_toArray, List.getElem_cons_zero, List.getElem_cons_succ, List.setIfInBounds_toArray, List.set_cons_zero, List.set_cons_succ]
          refine takeG0 (i := 10) (v := .pointer (some ⟨tb, tof + k * 10 + 9, none⟩)) rfl (by kernel_rfl) (by kernel_rfl) (by kernel_rfl) (by kernel_rfl) (fun _ _ _ h => h) (Or.inl ⟨by rfl, fun W hW => by go_simp⟩) hH ?_
          simp only [Act.put, List.getElem_toArray, List.getElem_cons_zero, List.getElem_cons_succ, List.setIfInBounds_toArray, List.set_cons_zero, List.set_cons_succ]
          refine takeT (i := 11) (v := .int .i64 st) rfl (by kernel_rfl) (by kernel_rfl) (by kernel_rfl) (by kernel_rfl) (fun _ _ _ h => h) (Or.inl ⟨by rfl, fun W hW => by have q0 := keepAt hW HF.out.2.1 HF.out.1; go_simp⟩) hH ?_
          simp only [Act.put, List.getElem_toArray, List.getElem_cons_zero, List.getElem_cons_succ, List.setIfInBounds_toArray, List.set_cons_zero, List.set_cons_succ]
          refine takeG0 (i := 12) (v := .bool false) rfl (by kernel_rfl) (by kernel_rfl) (by kernel_rfl) (by kernel_rfl) (fun _ _ _ h => h) (Or.inl ⟨by rfl, fun W hW => by go_simp⟩) hH ?_
          simp only [Act.put, List.getElem_toArray, List.getElem_cons_zero, List.getElem_cons_succ, List.setIfInBounds_toArray, List.set_cons_zero, List.set_cons_succ]
          refine takeG0 (i := 13) (v := .bool false) rfl (by kernel_rfl) (by kernel_rfl) (by kernel_rfl) (by kernel_rfl) (fun _ _ _ h => h) (Or.inl ⟨by rfl, fun W hW => by go_simp⟩) hH ?_
          simp only [Act.put, List.getElem_toArray, List.getElem_cons_zero, List.getElem_cons_succ, List.setIfInBounds_toArray, List.set_cons_zero, List.set_cons_succ]
          refine takeG0 (i := 14) (v := .bool false) rfl (by kernel_rfl) (by kernel_rfl) (by kernel_rfl) (by kernel_rfl) (fun _ _ _ h => h) (Or.inl ⟨by rfl, fun W hW => by go_simp⟩) hH ?_
          simp only [Act.put, List.getElem_toArray, List.getElem_cons_zero, List.getElem_cons_succ, List.setIfInBounds_toArray, List.set_cons_zero, List.set_cons_succ]
          refine takeG0 (i := 15) (v := .pointer (some ⟨B.mb, 0, none⟩)) rfl (by kernel_rfl) (by kernel_rfl) (by kernel_rfl) (by kernel_rfl) (fun _ _ _ h => h) (Or.inl ⟨by rfl, fun W hW => by go_simp⟩) hH ?_
          simp only [Act.put, List.getElem_toArray, List.getElem_cons_zero, List.getElem_cons_succ, List.setIfInBounds_toArray, List.set_cons_zero, List.set_cons_succ]
          refine takeG0 (i := 16) (v := .int .i64 (k : Int)) rfl (by kernel_rfl) (by kernel_rfl) (by kernel_rfl) (by kernel_rfl) (fun _ _ _ h => h) (Or.inl ⟨by rfl, fun W hW => by go_simp⟩) hH ?_
          simp only [Act.put, List.getElem_toArray, List.getElem_cons_zero, List.getElem_cons_succ, List.setIfInBounds_toArray, List.set_cons_zero, List.set_cons_succ]
          refine takeG0 (i := 19) (v := .pointer (some ⟨pb, 2, none⟩)) rfl (by kernel_rfl) (by kernel_rfl) (by kernel_rfl) (by kernel_rfl) (fun _ _ _ h => h) (Or.inl ⟨by rfl, fun W hW => by go_simp⟩) hH ?_
          simp only [Act.put, List.getElem_toArray, List.getElem_cons_zero, List.getElem_cons_succ, List.setIfInBounds_toArray, List.set_cons_zero, List.set_cons_succ]
          refine takeT (i := 20) (v := .int .i64 p.room) rfl (by kernel_rfl) (by kernel_rfl) (by kernel_rfl) (by kernel_rfl) (fun _ _ _ h => h) (Or.inl ⟨by rfl, fun W hW => by have q0 := (HF.out.2.2.1.below hW HF.out.2.2.2.1).cell 2; go_simp⟩) hH ?_
          simp only [Act.put, List.getElem_toArray, List.getElem_cons_zero, List.getElem_cons_succ, List.setIfInBounds_toArray, List.set_cons_zero, List.set_cons_succ]
          refine onlyG (i := 17) (by kernel_rfl) rfl (fun K hK => ?_)
          go_simp
          have cB := tbuffer_any B s4 own4 W0 HF.out.2.2.2.2.1 k HF.out.2.2.2.2.2.1 bn HF.out.2.2.2.2.2.2.1
          with_reducible refine cB.mono ?_
          rintro e W9 ⟨bA, bc, rfl, hb9⟩
          have hb9' : Below W0.heap.size W0 W9 := hb9
          have H9 := Lib.hid hb9
          refine hK.out _ _ hb9' (fun _ => ?_)
          clear hK K cB hb9 hH
          try simp only [Act.put, List.getElem_toArray, List.getElem_cons_zero, List.getElem_cons_succ, List.setIfInBounds_toArray, List.set_cons_zero, List.set_cons_succ]
          refine takeG0 (i := 18) (v := .int .i64 (bn : Int)) rfl (by kernel_rfl) (by kernel_rfl) (by kernel_rfl) (by kernel_rfl) (fun _ _ _ h => h) (Or.inl ⟨by rfl, fun W hW => by go_simp⟩) hb9' ?_
          simp only [Act.put, List.getElem_toArray, List.getElem_cons_zero, List.getElem_cons_succ, List.setIfInBounds_toArray, List.set_cons_zero, List.set_cons_succ]
          refine takeG0 (i := 21) (v := .bool false) rfl (by kernel_rfl) (by kernel_rfl) (by kernel_rfl) (by kernel_rfl) (fun _ _ _ h => h) (Or.inl ⟨by rfl, fun W hW => by go_simp⟩) hb9' ?_
          simp only [Act.put, List.getElem_toArray, List.getElem_cons_zero, List.getElem_cons_succ, List.setIfInBounds_toArray, List.set_cons_zero, List.set_cons_succ]
          refine lastG (by kernel_rfl) rfl (by kernel_rfl) (fun K hK => ?_)
          go_simp
          refine hK.out _ _ ?_
          clear hK K hb9'
          have HF10 := Lib.hid (step_belowN HF.out.2.2.2.2.2.2.2 H9.out HF.out.2.2.2.2.2.2.2.size)
          go_wp2
          go_roundw
          case rel => exact ⟨k + 1, by omega, by go_num, HF10.out⟩
          case measure => simp [intOf]; omega
        · obtain rfl : k = p.n := by omega
          have hk1 : ¬ (p.n : Int) < (p.n : Int) := by omega
          have HF9 := Lib.hid (And.intro (H6.out.2.2.1.below hB H6.out.2.2.1.lt).drew (And.intro (show pb < wr.drew.heap.size from Nat.lt_of_lt_of_le H6.out.2.2.1.lt hB.size) (And.intro ((H6.out.2.1.below hB).below (below_drew wr)) (And.intro H5.out.2.2.2.2.2.2.1 (step_belowN H6.out.1 hB H6.out.1.size).drew))))
          clear hB
          go_upto_region 16 with fail
          refine startG (fun W' => Below wr.drew.heap.size wr.drew W') 15 (by kernel_rfl) ?_
          have HF := HF9
          clear HF9
          generalize wr.drew = W0 at HF ⊢
          have hH : Below W0.heap.size W0 W0 := Below.refl _ _
          refine takeG0 (i := 0) (v := .slice tA p.n tc) rfl (by kernel_rfl) (by kernel_rfl) (by kernel_rfl) (by kernel_rfl) (fun _ _ _ h => h) (Or.inl ⟨by rfl, fun W hW => by go_simp⟩) hH ?_
          simp only [Act.put, List.getElem_toArray, List.getElem_cons_zero, List.getElem_cons_succ, List.setIfInBounds_toArray, List.set_cons_zero, List.set_cons_succ]
          refine takeG0 (i := 1) (v := .int .i64 (p.n : Int)) rfl (by kernel_rfl) (by kernel_rfl) (by kernel_rfl) (by kernel_rfl) (fun _ _ _ h => h) (Or.inl ⟨by rfl, fun W hW => by go_simp⟩) hH ?_
          simp only [Act.put, List.getElem_toArray, List.getElem_cons_zero, List.getElem_cons_succ, List.setIfInBounds_toArray, List.set_cons_zero, List.set_cons_succ]
          refine takeG0 (i := 2) (v := .pointer (some ⟨pb, 0, none⟩)) rfl (by kernel_rfl) (by kernel_rfl) (by kernel_rfl) (by kernel_rfl) (fun _ _ _ h => h) (Or.inl ⟨by rfl, fun W hW => by go_simp⟩) hH ?_
          simp only [Act.put, List.getElem_toArray, List.getElem_cons_zero, List.getElem_cons_succ, List.setIfInBounds_toArray, List.set_cons_zero, List.set_cons_succ]
          refine takeG (i := 3) (v := .slice p.A p.n p.cap) rfl (by kernel_rfl) (by kernel_rfl) (by kernel_rfl) (by kernel_rfl) (fun _ _ _ h => h) (Or.inl ⟨by rfl, fun W hW => by have q0 := (HF.out.1.below hW HF.out.2.1).cell 0; go_simp⟩) hH ?_
          simp only [Act.put, List.getElem_toArray, List.getElem_cons_zero, List.getElem_cons_succ, List.setIfInBounds_toArray, List.set_cons_zero, List.set_cons_succ]
          refine takeG0 (i := 4) (v := .int .i64 (p.n : Int)) rfl (by kernel_rfl) (by kernel_rfl) (by kernel_rfl) (by kernel_rfl) (fun _ _ _ h => h) (Or.inl ⟨by rfl, fun W hW => by go_simp⟩) hH ?_
          simp only [Act.put, List.getElem_toArray, List.getElem_cons_zero, List.getElem_cons_succ, List.setIfInBounds_toArray, List.set_cons_zero, List.set_cons_succ]
          refine takeG0 (i := 5) (v := .bool true) rfl (by kernel_rfl) (by kernel_rfl) (by kernel_rfl) (by kernel_rfl) (fun _ _ _ h => h) (Or.inl ⟨by rfl, fun W hW => by go_simp⟩) hH ?_
          simp only [Act.put, List.getElem_toArray, List.getElem_cons_zero, List.getElem_cons_succ, List.setIfInBounds_toArray, List.set_cons_zero, List.set_cons_succ]
          refine takeG0 (i := 6) (v := .bool true) rfl (by kernel_rfl) (by kernel_rfl) (by kernel_rfl) (by kernel_rfl) (fun _ _ _ h => h) (Or.inl ⟨by rfl, fun W hW => by go_simp⟩) hH ?_
          simp only [Act.put, List.getElem_toArray, List.getElem_cons_zero, List.getElem_cons_succ, List.setIfInBounds_toArray, List.set_cons_zero, List.set_cons_succ]
          refine takeG0 (i := 7) (v := .pointer (some ⟨B.mb, 0, none⟩)) rfl (by kernel_rfl) (by kernel_rfl) (by kernel_rfl) (by kernel_rfl) (fun _ _ _ h => h) (Or.inl ⟨by rfl, fun W hW => by go_simp⟩) hH ?_
          simp only [Act.put, List.getElem_toArray, List.getElem_cons_zero, List.getElem_cons_succ, List.setIfInBounds_toArray, List.set_cons_zero, List.set_cons_succ]
          refine takeG0 (i := 10) (v := .pointer (some ⟨pb, 1, none⟩)) rfl (by kernel_rfl) (by kernel_rfl) (by kernel_rfl) (by kernel_rfl) (fun _ _ _ h => h) (Or.inl ⟨by rfl, fun W hW => by go_simp⟩) hH ?_
          simp only [Act.put, List.getElem_toArray, List.getElem_cons_zero, List.getElem_cons_succ, List.setIfInBounds_toArray, List.set_cons_zero, List.set_cons_succ]
          refine takeG (i := 11) (v := .slice p.mA p.m p.mcap) rfl (by kernel_rfl) (by kernel_rfl) (by kernel_rfl) (by kernel_rfl) (fun _ _ _ h => h) (Or.inl ⟨by rfl, fun W hW => by have q0 := (HF.out.1.below hW HF.out.2.1).cell 1; go_simp⟩) hH ?_
          simp only [Act.put, List.getElem_toArray, List.getElem_cons_zero, List.getElem_cons_succ, List.setIfInBounds_toArray, List.set_cons_zero, List.set_cons_succ]
          refine takeG0 (i := 12) (v := .int .i64 (p.m : Int)) rfl (by kernel_rfl) (by kernel_rfl) (by kernel_rfl) (by kernel_rfl) (fun _ _ _ h => h) (Or.inl ⟨by rfl, fun W hW => by go_simp⟩) hH ?_
          simp only [Act.put, List.getElem_toArray, List.getElem_cons_zero, List.getElem_cons_succ, List.setIfInBounds_toArray, List.set_cons_zero, List.set_cons_succ]
          refine onlyG (i := 8) (by kernel_rfl) rfl (fun K hK => ?_)
          go_simp
          have cM := tmem_any B s4 own4 W0 HF.out.2.2.1 (by have h1 := HF.out.2.2.2.1; have h2 := HP.out.2.1.2.2.1; omega)
          rw [HF.out.2.2.2.1] at cM
          with_reducible refine cM.mono ?_
          rintro e W9 ⟨mv, rfl, hmv, hb9⟩
          obtain ⟨mvA, mvc, rfl, _, _⟩ := own_cap hmv
          have hb9' : Below W0.heap.size W0 W9 := hb9
          have H9 := Lib.hid hb9
          refine hK.out _ _ hb9' (fun _ => ?_)
          clear hK K cM hb9 hH hmv
          try simp only [Act.put, List.getElem_toArray, List.getElem_cons_zero, List.getElem_cons_succ, List.setIfInBounds_toArray, List.set_cons_zero, List.set_cons_succ]
          refine takeG0 (i := 9) (v := .int .i64 (p.m : Int)) rfl (by kernel_rfl) (by kernel_rfl) (by kernel_rfl) (by kernel_rfl) (fun _ _ _ h => h) (Or.inl ⟨by rfl, fun W hW => by go_simp⟩) hb9' ?_
          simp only [Act.put, List.getElem_toArray, List.getElem_cons_zero, List.getElem_cons_succ, List.setIfInBounds_toArray, List.set_cons_zero, List.set_cons_succ]
          refine takeG0 (i := 13) (v := .bool true) rfl (by kernel_rfl) (by kernel_rfl) (by kernel_rfl) (by kernel_rfl) (fun _ _ _ h => h) (Or.inl ⟨by rfl, fun W hW => by go_simp⟩) hb9' ?_
          simp only [Act.put, List.getElem_toArray, List.getElem_cons_zero, List.getElem_cons_succ, List.setIfInBounds_toArray, List.set_cons_zero, List.set_cons_succ]
          refine takeG0 (i := 14) (v := .bool true) rfl (by kernel_rfl) (by kernel_rfl) (by kernel_rfl) (by kernel_rfl) (fun _ _ _ h => h) (Or.inl ⟨by rfl, fun W hW => by go_simp⟩) hb9' ?_
          simp only [Act.put, List.getElem_toArray, List.getElem_cons_zero, List.getElem_cons_succ, List.setIfInBounds_toArray, List.set_cons_zero, List.set_cons_succ]
          refine lastG (by kernel_rfl) rfl (by kernel_rfl) (fun K hK => ?_)
          go_simp
          refine hK.out _ _ ?_
          clear hK K hb9'
          have HF10 := Lib.hid (step_belowN HF.out.2.2.2.2 H9.out HF.out.2.2.2.2.size)
          go_wp2
          go_ret
          exact ⟨rfl, HF10.out⟩
end Go.Proofs.YtjmnogpnjombgaaDoor
