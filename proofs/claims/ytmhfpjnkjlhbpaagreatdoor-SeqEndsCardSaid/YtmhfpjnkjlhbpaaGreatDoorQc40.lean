/- The contract of pick.Read: the picks of bytes, in new memory. What is learned of an even script's row. SeqEnds: the law. Structs of bytes, opened at once. -/
import Derived.Test.YtmhfpjnkjlhbpaaGreatDoorQc34
import Derived.Test.YtmhfpjnkjlhbpaaGreatDoorQc01
import Derived.Test.YtmhfpjnkjlhbpaaGreatDoorQc39
import Derived.Test.YtmhfpjnkjlhbpaaGreatDoorQc33
import Derived.Test.YtmhfpjnkjlhbpaaGreatDoorQc36
import Derived.Deep.DeepMust
import Derived.Test.YtmhfpjnkjlhbpaaGreatDoorQc02
import Derived.Lib.SmallJoins
namespace Go.Proofs.YtmhfpjnkjlhbpaaGreatDoor
open Go.RowKit
set_option linter.unusedVariables false
set_option maxRecDepth 100000
theorem pick_info : (Tryz.prog.info? 78).map (fun i => (i.zero, i.size, i.bytes)) = some (some (.agg #[.int .i64 0, .int .i64 0]), 2, 16) := by kernel_rfl
theorem run_make_rowN {P : Program} (t e : TypeId) (i : TypeInfo) (z : Value) (ht : P.underlying t = some (.slice e)) (hi : P.info? e = some i) (hz : i.zero = some z)
    (kl kc : IntKind) (n c : Nat) (hnc : n <= c) (hbytes : i.bytes * c <= 281474976710656) (h63 : c <= 9223372036854775807) (w : World) :
    (Instr.makeSlice t (.int kl (n : Int)) (.int kc (c : Int))).run P w = .ok (.slice (some ⟨w.heap.size, 0, none⟩) n c) (w.alloc (.cells (madeCells z.cells (c * i.size)) e)) := by
  have hb : (i.bytes : Int) * (c : Int) <= 281474976710656 := by
    have h : ((i.bytes * c : Nat) : Int) <= 281474976710656 := by omega
    rwa [Int.natCast_mul] at h
  have hr := run_make (P := P) w t e i z ht hi hz kl kc n c (by omega) (by omega) hb (by omega)
  simp only [Int.toNat_natCast] at hr
  exact hr
theorem run_make_picks (n : Nat) (hn : n <= 1000000) : ∀ w : World, (Instr.makeSlice 37 (.int .i64 (n : Int)) (.int .i64 (n : Int))).run Tryz.prog w =
    .ok (.slice (some ⟨w.heap.size, 0, none⟩) n n) (w.alloc (.cells (madeCells #[.int .i64 0, .int .i64 0] (n * 2)) 78)) := fun w => by
  obtain ⟨i, hi, hz, hs, hb⟩ := info_parts pick_info
  have := run_make_rowN (P := Tryz.prog) 37 78 i _ Tryz.underlying37 hi hz .i64 .i64 n n (Nat.le_refl _) (by rw [hb]; omega) (by omega) w
  rw [hs] at this
  exact this
set_option maxHeartbeats 400000 in
theorem pickRead_any (A : Option Addr) (len cap : Nat) (Z : Nat -> Int) (w : World) (hl : len <= 100000) (hsl : Sl w A len (fun i => .int .u8 (Z i))) (hz : ∀ i, i < len -> 0 <= Z i /\ Z i <= 255) :
    Calls Tryz.prog 18 #[.slice A len cap] w fun e w' => ∃ cs : Array Value, e = .returned (.slice (some ⟨w.heap.size, 0, none⟩) len len) /\ Blk w' w.heap.size 78 cs /\ cs.size = len * 2 /\
      (∀ i, i < len -> cs[i * 2]? = some (.int .i64 (Z i / 8 % 3)) /\ cs[i * 2 + 1]? = some (.int .i64 (Z i % 8))) /\ Below w.heap.size w w' := by
  have hmk := run_make_picks len (by omega)
  go_enter Tryz.func18, Tryz.ntmps18
  go_wp2
  clear hmk
  go_loopw [11] (fun v wr => ∃ k : Nat, k <= len /\ v = .int .i64 k /\ ∃ cs : Array Value, Blk wr w.heap.size 78 cs /\ cs.size = len * 2 /\ (∀ i, i < k -> cs[i * 2]? = some (.int .i64 (Z i / 8 % 3)) /\ cs[i * 2 + 1]? = some (.int .i64 (Z i % 8))) /\ Below w.heap.size w wr)
    (fun v _ => len - (intOf v).toNat)
  case atStart =>
    exact ⟨0, Nat.zero_le _, rfl, _, Blk.new _ _ _, by simp [size_madeCells], fun i hi => absurd hi (by omega), (Below.refl _ _).alloc (Nat.le_refl _) _⟩
  case round =>
    obtain ⟨k, hk, rfl, cs, hblk, hcs, hdone, hB⟩ := hrel
    by_cases hlt : k < len
    · obtain ⟨b, off, rfl, hbW, hcW⟩ := (hsl.below (Nat.le_refl _) hB) (by omega)
      have hc0 := hcW k hlt
      have hz0 := hz k hlt
      have hblk1 : ∀ {w1 : World}, Below wr.heap.size wr w1 -> Blk w1 w.heap.size 78 cs := fun hb => hblk.below hb hblk.lt
      have hlg := hblk.lt
      have hx0 : ∃ v0, cs[k * 2]? = some v0 := ⟨_, Array.getElem?_eq_getElem (by omega)⟩
      have hx1 : ∃ v1, cs[k * 2 + 1]? = some v1 := ⟨_, Array.getElem?_eq_getElem (by omega)⟩
      obtain ⟨v0, hv0⟩ := hx0
      obtain ⟨v1, hv1⟩ := hx1
      have HS := Lib.hid hcs
      clear hcs hcW hsl
      go_wp2_with (first | (go_at_call 46; refine (of_any _ hz0.1 hz0.2 _).mono ?_; rintro e w1 ⟨rfl, hb1⟩; have q := hblk1 hb1; have q0 := (q.cell (k * 2)).trans hv0; have q1 := (q.cell (k * 2 + 1)).trans hv1; have f0 := q.frozen (k * 2); have f1 := q.frozen (k * 2 + 1)))
      go_roundw
      case rel =>
        refine ⟨k + 1, by omega, by go_num, _, (q.set_ (k * 2) _).set_ (k * 2 + 1) _, by simp [HS.out], fun i hi => ?_, ?_⟩
        · by_cases hik : i = k
          · subst hik
            have := HS.out
            constructor
            · rw [Array.getElem?_setIfInBounds_ne (by omega), Array.getElem?_setIfInBounds_self_of_lt (by omega)]
            · rw [Array.getElem?_setIfInBounds_self_of_lt (by simp; omega)]
          · have := hdone i (by omega)
            rw [Array.getElem?_setIfInBounds_ne (by omega), Array.getElem?_setIfInBounds_ne (by omega), Array.getElem?_setIfInBounds_ne (by omega), Array.getElem?_setIfInBounds_ne (by omega)]
            exact this
        · exact ((step_below hB hb1).setCell (Nat.le_refl _) _).setCell (Nat.le_refl _) _
      case measure => simp [intOf]; omega
    · obtain rfl : k = len := by omega
      go_wp2
      go_ret
      exact ⟨cs, rfl, hblk, hcs, hdone, hB⟩
end Go.Proofs.YtmhfpjnkjlhbpaaGreatDoor
namespace Go.Proofs.YtmhfpjnkjlhbpaaGreatDoor
open Go.ChangeShapes Go.WideShapes Go.ChangeAt Go.RowKit Go.Deep
set_option linter.unusedVariables false
set_option maxRecDepth 100000
set_option linter.unusedSimpArgs false
theorem own_picks {w : World} {base n : Nat} {v : Value} {L : List Pk} (h : w.ownsRow base 78 2 v n (L.flatMap pkE)) (hn : L.length = n) : ∃ A cap, v = .slice A n cap /\ n <= cap /\ SlE w A n 2 (fun i => pkE (L.getD i (0, 0))) := by
  subst hn
  obtain ⟨A, cap, h1, h2, h3⟩ := own_sle pkE (fun _ => rfl) (0, 0) L h
  exact ⟨A, cap, h1, h2, h3⟩
theorem read_picks {w w' : World} {len : Nat} {cs : Array Value} {Z : Nat -> Int} (h : Blk w' w.heap.size 78 cs) (hc : ∀ i, i < len -> cs[i * 2]? = some (.int .i64 (Z i / 8 % 3)) /\ cs[i * 2 + 1]? = some (.int .i64 (Z i % 8))) :
    SlE w' (some ⟨w.heap.size, 0, none⟩) len 2 (fun i => pkE (Z i / 8 % 3, Z i % 8)) := fun _ =>
  ⟨w.heap.size, 0, rfl, h.lt, fun i hi j u hu => by
    have hj : j < 2 := (List.getElem?_eq_some_iff.1 hu).1
    obtain ⟨h0, h1⟩ := hc i hi
    rw [Nat.zero_add, h.cell]
    rcases (by omega : j = 0 ∨ j = 1) with rfl | rfl
    · rw [Nat.add_zero, h0]; exact hu
    · rw [h1]; exact hu⟩
theorem case_info : (Tryz.prog.info? 23).map (·.size) = some 5 := by kernel_rfl
set_option maxHeartbeats 40000000 in
theorem seqEnds_true (a b c d e : Nat) (h255 : a <= 255 /\ b <= 255 /\ c <= 255 /\ d <= 255 /\ e <= 255) (sA : Option Addr) (sn scap : Nat) (Y : Nat -> Int) (mo : Nat) (hmo : mo <= 255) (hsn : sn <= scap) (hsm : scap <= maxLen) (hy : ∀ i, i < sn -> 0 <= Y i /\ Y i <= 255) 
    (w : World) (hT : Tab w) (hss : Sl w sA sn (fun i => .int .u8 (Y i))) :
    Calls Tryz.prog 8 #[.agg #[.int .u8 (a : Int), .int .u8 (b : Int), .int .u8 (c : Int), .int .u8 (d : Int), .int .u8 (e : Int)], .slice sA sn scap, .int .u8 (mo : Int)] w fun ed w' => ed = .returned (.bool true) /\ Below w.heap.size w w' := by
  have hal := (Below.refl w.heap.size w).alloc (Nat.le_refl _) (.cells #[.int .u8 (a : Int), .int .u8 (b : Int), .int .u8 (c : Int), .int .u8 (d : Int), .int .u8 (e : Int)] 23)
  have cA := awake19 _ (hT.step hal)
  have hX := Blk.new w 23 #[.int .u8 (a : Int), .int .u8 (b : Int), .int .u8 (c : Int), .int .u8 (d : Int), .int .u8 (e : Int)]
  have HI := Lib.hid (And.intro hT (And.intro hss (And.intro hy (And.intro hsn (And.intro hsm h255)))))
  have HW := Lib.hid (And.intro hX (And.intro hal (And.intro (hss.step hal) (hT.step hal))))
  clear hX hal hT hss hy hsn hsm h255
  obtain ⟨xb, hxb⟩ : ∃ xb, w.heap.size = xb := ⟨_, rfl⟩
  have HX0 := Lib.hid hxb.symm
  generalize hW1 : w.alloc (.cells #[.int .u8 (a : Int), .int .u8 (b : Int), .int .u8 (c : Int), .int .u8 (d : Int), .int .u8 (e : Int)] 23) = W1 at cA HW
  rw [hxb] at HW
  go_enter Tryz.func8, Tryz.ntmps8
  go_wp2_with fail
  try rw [hW1]
  try rw [hxb]
  by_cases h3000 : sn <= 3000
  case neg =>
    have h3 : ((3000 : Int) < (sn : Int)) := by omega
    with_reducible refine cA.mono ?_
    rintro ed Wa ⟨rfl, hB⟩
    have cA2 := awake19 Wa (HW.out.2.2.2.step hB)
    have HB := Lib.hid hB
    clear cA hB
    go_wp2_with fail
    with_reducible refine cA2.mono ?_
    rintro ed Wb ⟨rfl, hB2⟩
    clear cA2
    go_wp2
    go_ret
    rw [hxb]
    exact ⟨rfl, (HW.out.2.1.trans (HB.out.mono (by have := HW.out.2.1.size; omega))).trans (hB2.mono (by have := HW.out.2.1.size; have := HB.out.size; omega))⟩
  case pos =>
    have h3 : ¬ ((3000 : Int) < (sn : Int)) := by omega
    with_reducible refine cA.mono ?_
    rintro ed Wa ⟨rfl, hB⟩
    clear cA hW1
    have hX := HW.out.1.below hB HW.out.1.lt
    have hBa : Below xb w Wa := HW.out.2.1.trans (hB.mono (by have := HW.out.2.1.size; omega))
    have cM := seqMk_any a b c d e HI.out.2.2.2.2.2 Wa (HW.out.2.2.2.step hB)
    obtain ⟨N, hN⟩ : ∃ N, 1 + a % 3 = N := ⟨_, rfl⟩
    obtain ⟨Wn, hWn⟩ : ∃ N, 1 + b % 2 = N := ⟨_, rfl⟩
    obtain ⟨R, hRn⟩ : ∃ N, 1 + c % 2 = N := ⟨_, rfl⟩
    obtain ⟨rd, hrd⟩ : ∃ N, 1 + d % 3 = N := ⟨_, rfl⟩
    obtain ⟨rm, hrm⟩ : ∃ N, 1 + e % 5 = N := ⟨_, rfl⟩
    rw [hN, hWn, hRn, hrd, hrm] at cM
    have hd255 : d <= 255 := HI.out.2.2.2.2.2.2.2.2.1
    have bN : 1 <= N /\ N <= 3 := by omega
    have bW : 1 <= Wn /\ Wn <= 2 := by omega
    have bR : 1 <= R /\ R <= 2 := by omega
    have brd : 1 <= rd /\ rd <= 3 := by omega
    have brm : 1 <= rm /\ rm <= 5 := by omega
    have HN := Lib.hid (And.intro hN (And.intro hWn (And.intro hRn (And.intro hrd hrm))))
    clear hN hWn hRn hrd hrm
    have hxl := hX.lt
    have HXa := Lib.hid (And.intro hX hBa)
    clear hX hBa hB
    go_wp2_with (refine wpList_load_row rfl 23 (.tmp 3) rfl xb rfl 23 #[.int .u8 (a : Int), .int .u8 (b : Int), .int .u8 (c : Int), .int .u8 (d : Int), .int .u8 (e : Int)] _ _ HXa.out.1 Tryz.underlying23 rfl case_info ?_)
    with_reducible refine cM.mono ?_
    rintro ed Wb ⟨v, mb, base, rfl, hBb, hCk, hSl⟩
    clear cM
    obtain ⟨vA, vc, hve⟩ := hCk.cap
    rw [List.length_map, List.length_range] at hve
    subst hve
    obtain ⟨th, hth⟩ : ∃ th, Wn + R = th := ⟨_, rfl⟩
    obtain ⟨m, hm⟩ : ∃ m, 18 + N = m := ⟨_, rfl⟩
    rw [hth] at hCk
    rw [hm] at hSl
    try rw [hth]
    try rw [hm]
    have bth : 2 <= th /\ th <= 4 := by omega
    have bm : m <= 21 := by omega
    have halb := (Below.refl Wb.heap.size Wb).alloc (Nat.le_refl _) (.cells #[.slice vA th vc, .slice (some ⟨mb, 0, none⟩) m m, .int .i64 (rm : Int)] 29)
    have hPb := Blk.new Wb 29 #[.slice vA th vc, .slice (some ⟨mb, 0, none⟩) m m, .int .i64 (rm : Int)]
    have hCp := hCk.below halb
    have hSp := hSl.step halb
    have hXp := (HXa.out.1.below hBb HXa.out.1.lt).below halb (by have := (HXa.out.1.below hBb HXa.out.1.lt).lt; exact this)
    have hBp : Below xb w (Wb.alloc (.cells #[.slice vA th vc, .slice (some ⟨mb, 0, none⟩) m m, .int .i64 (rm : Int)] 29)) := (HXa.out.2.trans (hBb.mono (by have := HXa.out.2.size; have := HX0.out; omega))).trans (halb.mono (by have := HXa.out.2.size; have := HX0.out; have := hBb.size; omega))
    obtain ⟨pb, hpb⟩ : ∃ pb, Wb.heap.size = pb := ⟨_, rfl⟩
    rw [hpb] at hPb
    have hpx : pb ≠ xb := by have := (HXa.out.1.below hBb HXa.out.1.lt).lt; omega
    clear hCk hSl halb hBb
    generalize hWp : Wb.alloc (.cells #[.slice vA th vc, .slice (some ⟨mb, 0, none⟩) m m, .int .i64 (rm : Int)] 29) = Wp at hPb hCp hSp hXp hBp
    have hL : ∀ l ∈ (List.range th).map (fun t => sqT N rd t (decide (t < Wn))), ∃ t, t < th /\ l = sqT N rd t (decide (t < Wn)) := fun l hl => by
      obtain ⟨t, h1, h2⟩ := List.mem_map.1 hl
      exact ⟨t, List.mem_range.1 h1, h2.symm⟩
    have hgd := fun t (ht : t < th) => sqT_good (N := N) (rd := rd) (t := t) (decide (t < Wn)) (by omega) bN.1 bN.2 brd.1 brd.2
    obtain ⟨vA', vc', cds, hv', pO, pC, pA, pcd⟩ := hCp.prog (fun l hl x hx => by obtain ⟨t, h1, rfl⟩ := hL l hl; exact (hgd t h1).1 x hx) (fun l hl x hx => by obtain ⟨t, h1, rfl⟩ := hL l hl; exact (hgd t h1).2.1 x hx)
      (fun l hl => by obtain ⟨t, h1, rfl⟩ := hL l hl; rw [(hgd t h1).2.2]; have h5 := bsQ_le (if decide (t < Wn) = true then sgW N else sgR N) (sqSn N rd (decide (t < Wn))); have h6 := sqSn_le (N := N) bN.2 brd.2 (decide (t < Wn)); omega) (by rw [List.length_map, List.length_range]; omega) (room := (rm : Int)) (by omega) (mA := some ⟨mb, 0, none⟩) (m := m) (mcap := m) (by omega) ⟨Nat.le_refl _, by unfold maxLen; omega⟩ hSp
    rw [List.length_map, List.length_range] at hv' pO pC pA pcd
    injection hv' with e1 _ e2
    subst e1 e2
    obtain ⟨pg, hpg⟩ : ∃ pg, lPg vA th vc cds (some ⟨mb, 0, none⟩) m m (rm : Int) = pg := ⟨_, rfl⟩
    have cN := tsoNew_ok pg (hpg ▸ pO) 0 0 (hpg ▸ pC) Wp (HI.out.1.step (HX0.out ▸ hBp)) (hpg ▸ pA)
    have hpv : pg.val = .agg #[.slice vA th vc, .slice (some ⟨mb, 0, none⟩) m m, .int .i64 (rm : Int)] := by rw [<- hpg]; rfl
    rw [hpv] at cN
    have pcd' : ∀ t, t < th -> (pg.cd t).len = (sqT N rd t (decide (t < Wn))).length /\ (pg.cd t).F = fun i => (sqT N rd t (decide (t < Wn))).getD i default := fun t ht => by
      have h := pcd t ht
      have e : ((List.range th).map fun t => sqT N rd t (decide (t < Wn))).getD t [] = sqT N rd t (decide (t < Wn)) := by simp [List.getD_eq_getElem?_getD, List.getElem?_map, List.getElem?_range ht]
      rw [e] at h
      rw [<- hpg]
      exact h
    have HPG := Lib.hid (And.intro (hpg ▸ pO) (And.intro (show 1 <= pg.room /\ pg.room <= 16 by rw [<- hpg]; show 1 <= (rm : Int) /\ (rm : Int) <= 16; omega) (And.intro (show pg.m = 18 + N by rw [<- hpg]; exact hm.symm) (And.intro (show ∀ i, pg.Z i = 0 by rw [<- hpg]; exact fun _ => rfl) (And.intro (show pg.n = Wn + R by rw [<- hpg]; exact hth.symm) (fun t (ht : t < pg.n) => pcd' t (by rw [<- hpg] at ht; exact ht)))))))
    have HP := Lib.hid (And.intro hPb (And.intro hXp (And.intro hBp (And.intro hpx (And.intro hth hm)))))
    clear hL hgd pO pC pA pcd pcd' hpv hpg hPb hCp hSp hXp hBp hpx hth hm
    have p0 := (HP.out.1.cell 0).trans rfl
    have p1 := (HP.out.1.cell 1).trans rfl
    have p2 := (HP.out.1.cell 2).trans rfl
    go_wp2_with fail
    try rw [hWp]
    try rw [hpb]
    with_reducible refine cN.mono ?_
    rintro ed W6 ⟨B, rfl, hNew, hroom, hI, hB6⟩
    clear cN hWp hpb p0 p1 p2
    have hBok := newM_ok hNew (by rw [HPG.out.2.2.2.2.1]; omega) (by rw [HPG.out.2.2.1]; omega)
    have hOk0 := t0_ok HPG.out.1 hNew
    have hb6 : Below w.heap.size w W6 := step_below (HX0.out ▸ HP.out.2.2.1) hB6
    have hss6 := HI.out.2.1.step hb6
    have hP6 := HP.out.1.below hB6 HP.out.1.lt
    have hX6 := HP.out.2.1.below hB6 HP.out.2.1.lt
    have cR := pickRead_any sA sn scap Y W6 (by omega) hss6 HI.out.2.2.1
    have p0 := (hP6.cell 0).trans rfl
    obtain ⟨wN, hwN⟩ : ∃ wN, 4 * th + mo = wN := ⟨_, rfl⟩
    obtain ⟨nN, hnN⟩ : ∃ nN, 20 * wN = nN := ⟨_, rfl⟩
    have uw : 4 * (th : Int) + (mo : Int) = (wN : Int) := by omega
    have un : 20 * (wN : Int) = (nN : Int) := by omega
    have bw : 4 * th <= wN /\ wN <= 271 := by omega
    have bn : nN <= 5420 := by omega
    have HM := Lib.hid (And.intro hNew (And.intro hroom (And.intro hI (And.intro hb6 (And.intro hBok (And.intro hOk0 (And.intro hB6 hnN)))))))
    clear hNew hroom hI hB6 hBok hOk0 hb6 hss6 hP6 hX6 hwN hnN
    go_wp2_with fail
    with_reducible refine cR.mono ?_
    rintro ed W7 ⟨cs7, rfl, hb7, hs7, hc7, hB7⟩
    clear cR p0
    have hpk := read_picks hb7 hc7
    have cE := even_yes (some ⟨W6.heap.size, 0, none⟩) sn sn (fun i => (Y i / 8 % 3, Y i % 8)) th wN nN (by omega) (by omega) (by omega) bw.1 (by omega) (by omega) W7 hpk
    obtain ⟨g6, hg6⟩ : ∃ g6, W6.heap.size = g6 := ⟨_, rfl⟩
    have HB7 := Lib.hid (And.intro hB7 hg6)
    clear hb7 hs7 hc7 hpk hB7
    rw [hg6] at cE
    try rw [hg6]
    clear hg6
    go_wp2_with fail
    with_reducible refine cE.mono ?_
    rintro ed W8 ⟨vL, L, D, kk, rfl, hLn, hown, hpl, hB8⟩
    clear cE
    rw [hLn] at hown
    obtain ⟨AL, cL, rfl, _, hslL⟩ := own_picks hown hLn
    obtain ⟨hNew, hroom, hI6, hb6, hBok, hOk0, hB6, hnN⟩ := HM.out
    have hfair := hpl.fair (by omega) (by omega) bw.1 (by omega) (by omega)
    have hI8 := hI6.below (step_below HB7.out.1 hB8)
    have hb8 := step_below hb6 (step_below HB7.out.1 hB8)
    obtain ⟨hCI, mu0, hl0, hmu0, hR0⟩ := seq_begin HPG.out.1 hNew hroom HPG.out.2.1 bN.1 bN.2 brd.1 brd.2 bW.2 bR.2 HPG.out.2.2.1 HPG.out.2.2.2.1 HPG.out.2.2.2.2.1 HPG.out.2.2.2.2.2
    have hEv0 : EvC 999999000 (2 * (3000 * nN)) (t0 pg) := by
      unfold EvC
      show 0 + tot (List.replicate pg.n []) + _ <= _
      rw [tot_nil]; omega
    have hths : ∀ s, TOk B s -> s.ths.length = th /\ s.bufs.length = s.ths.length := fun s hs => ⟨by have h1 := hs.ok.nt; have h2 := hNew.n; have h3 := HPG.out.2.2.2.2.1; have h4 := HP.out.2.2.2.2.1; omega, by rw [hs.bl, hs.ok.nt]⟩
    obtain ⟨g9, hg9⟩ : ∃ g9, W8.heap.size = g9 := ⟨_, rfl⟩
    have hLb : 0 < nN -> ∀ bb o, AL = some ⟨bb, o, none⟩ -> g6 <= bb /\ bb < g9 := fun hp bb o e => by
      have h1 := own_in hown bb (by rw [e]; rfl)
      have h2 := HB7.out.1.size
      have h3 := HB7.out.2
      exact ⟨by omega, by rw [<- hg9]; exact h1.2⟩
    have hsz8 : g6 <= g9 := by have h1 := HB7.out.1.size; have h2 := HB7.out.2; have h3 := hB8.size; omega
    have hnt4 : (sqC N Wn R rd).nt = th := HP.out.2.2.2.2.1
    have hown0 : ∀ i, (fun i => Wp.heap.size <= i /\ i < W6.heap.size) i -> Wp.heap.size <= i /\ (i < g6 ∨ g9 <= i) := fun i q => ⟨q.1, .inl (by rw [<- HB7.out.2]; exact q.2)⟩
    have hwp : w.heap.size <= Wp.heap.size := by have h1 := HP.out.2.2.1.size; have h2 := HX0.out; omega
    have hTab := HI.out.1
    have hfull : 20 * wN <= L.length := by rw [hLn, hnN]; exact Nat.le_refl _
    have HA0 := Lib.hid (And.intro hR0 (And.intro hmu0 (And.intro hOk0 (And.intro hEv0 (And.intro hI8 (And.intro hown0 (And.intro hb8 hslL)))))))
    have HA := Lib.hid (And.intro hCI (And.intro hBok (And.intro hths (And.intro hLb (And.intro hfair.2.2 (And.intro hroom (And.intro hsz8 (And.intro hwp (And.intro hfull (And.intro hLn hnt4))))))))))
    have HG9 := Lib.hid hg9
    have HWP := Lib.hid (show Wp.heap.size <= g9 by have h1 := HB7.out.1.size; have h2 := HB7.out.2; have h3 := hB8.size; have h4 := hB6.size; omega)
    clear hCI hBok hths hLb hfair hroom hsz8 hwp hfull hLn hNew hI6 hI8 hb6 hb8 hOk0 hB6 hnN hpl hown hslL hB8 hR0 hmu0 hEv0 hg9 hown0 hTab hnt4
    go_wp2_with fail
    go_loopw [17] (fun vi wr => ∃ (k : Nat) (s : Mst) (own : Nat -> Prop) (mu : Nat) (h : Int × Int), k <= 3000 /\ vi = .int .i64 (k : Int) /\ SqR (sqC N Wn R rd) B s mu h /\ mu <= 50000 - 20 * k /\ TOk B s /\ EvC 999999000 (2 * ((3000 - k) * nN)) s /\ MInv tsoL B s own wr /\ (∀ i, own i -> Wp.heap.size <= i /\ (i < g6 ∨ g9 <= i)) /\ g9 <= wr.heap.size /\ Below w.heap.size w wr /\ SlE wr AL nN 2 (fun i => pkE (L.getD i (0, 0)))) (fun vi _ => 3000 - (intOf vi).toNat)
    case atStart => exact ⟨0, t0 pg, _, mu0, hl0, Nat.zero_le _, rfl, HA0.out.1, by have := HA0.out.2.1; omega, HA0.out.2.2.1, HA0.out.2.2.2.1, HA0.out.2.2.2.2.1, HA0.out.2.2.2.2.2.1, by rw [HG9.out]; exact Nat.le_refl _, HA0.out.2.2.2.2.2.2.1, HA0.out.2.2.2.2.2.2.2⟩
    case round =>
      obtain ⟨k, s, own, mu, h, hk, rfl, hR, hmu, hOk, hEv, hI9, hown9, hg, hBw, hsl⟩ := hrel
      obtain ⟨hth1, hth2⟩ := HA.out.2.2.1 s hOk
      by_cases hk3 : k < 3000
      case neg =>
        have hke : ¬ (k : Int) < 3000 := by omega
        have hmu0 : mu = 0 := by omega
        rw [hmu0] at hR
        have hdn := hR.done (sqC_lv bN.2 brd.2)
        have hD : doneM s = true := doneM_of (fun t ht => hdn t (by rw [HA.out.2.2.2.2.2.2.2.2.2.2]; rw [hth1] at ht; exact ht))
        have cD := tdone_any B s own wr hI9 (by omega) (by omega) hth2
        rw [hD] at cD
        have HBW := Lib.hid hBw
        clear hR hmu hOk hEv hI9 hown9 hg hBw hsl hdn hD hth1 hth2 hmu0
        go_wp2_with fail
        with_reducible refine cD.mono ?_
        rintro ed Wz ⟨rfl, hBz⟩
        clear cD
        go_wp2
        go_ret
        exact ⟨rfl, by have K := step_below HBW.out hBz; first | exact K | (rw [hxb] at K; exact K)⟩
      case pos =>
        have hke : (k : Int) < 3000 := by omega
        have cD := tdone_any B s own wr hI9 (by omega) (by omega) hth2
        obtain ⟨dn, hdn⟩ : ∃ dn, doneM s = dn := ⟨_, rfl⟩
        rw [hdn] at cD
        have HRR := Lib.hid (And.intro hR (And.intro hmu (And.intro hOk (And.intro hEv (And.intro hI9 (And.intro hown9 (And.intro hg (And.intro hBw (And.intro hsl (And.intro hdn (And.intro hth1 hth2)))))))))))
        clear hR hmu hOk hEv hI9 hown9 hg hBw hsl hdn hth1 hth2
        go_wp2_with fail
        with_reducible refine cD.mono ?_
        rintro ed Wd ⟨rfl, hBd⟩
        clear cD
        obtain ⟨hR, hmu, hOk, hEv, hI9, hown9, hg, hBw, hsl, hdn, hth1, hth2⟩ := HRR.out
        have hId := hI9.below hBd
        cases dn with
        | true =>
          have cD2 := tdone_any B s own Wd hId (by omega) (by omega) hth2
          rw [hdn] at cD2
          have HBW := Lib.hid (step_below hBw hBd)
          have HST := Lib.hid (And.intro hOk (And.intro hdn (And.intro hId (And.intro hEv hR))))
          clear hR hmu hOk hEv hI9 hown9 hg hBw hsl hdn hth1 hth2 hBd hId
          go_wp2_with fail
          with_reducible refine cD2.mono ?_
          rintro ed Wz ⟨rfl, hBz⟩
          clear cD2
          go_wp2
          go_ret
          exact ⟨rfl, by have K := step_below HBW.out hBz; first | exact K | (rw [hxb] at K; exact K)⟩
        | false =>
          have hF := range_getD_pk L HA.out.2.2.2.2.2.2.2.2.2.1
          have hlo2 : ∀ i, own i -> 2 <= i := fun i q => by have h1 := (hown9 i q).1; have h2 := HA.out.2.2.2.2.2.2.2.1; have h3 := HI.out.1.1; omega
          have cQ := trun2_any B HA.out.2.1 s (by rw [HA.out.2.2.2.2.2.1]; exact HPG.out.2.1.2) hOk AL nN cL (fun i => L.getD i (0, 0)) (hEv.mono (by
            have h1 : nN <= (3000 - k) * nN := Nat.le_mul_of_pos_left nN (by omega)
            omega)) own Wd hId (HI.out.1.step (step_below hBw hBd)) (hsl.below (Nat.le_refl _) hBd) (fun hp bb o e q => by
            have h1 := HA.out.2.2.2.1 hp bb o e
            have h2 := (hown9 bb q).2
            omega) (by omega)
          rw [hF] at cQ
          obtain ⟨mu', hl', hR', hmu'⟩ := (sq_lives HA.out.2.1 HA.out.1 (sqC_lv bN.2 brd.2)).windows 20 L (nt := (sqC N Wn R rd).nt) (w := wN) (by rw [HA.out.2.2.2.2.2.2.2.2.2.2]; exact HA.out.2.2.2.2.1) (fun _ _ => trivial) HA.out.2.2.2.2.2.2.2.2.1 hR
          have hOk' := tRun_ok HA.out.2.1 L s hOk
          have hEv' : EvC 999999000 (2 * ((3000 - (k + 1)) * nN)) (tRun B s L) := by
            refine tRun_evc L (hEv.mono ?_)
            have e1 : (3000 - k) * nN = (3000 - (k + 1)) * nN + nN := by rw [show 3000 - k = 3000 - (k + 1) + 1 by omega, Nat.succ_mul]
            have e2 := HA.out.2.2.2.2.2.2.2.2.2.1
            omega
          obtain ⟨S', hS'⟩ : ∃ S', tRun B s L = S' := ⟨_, rfl⟩
          rw [hS'] at cQ hR' hOk' hEv'
          have HN1 := Lib.hid (And.intro hR' (And.intro hmu' (And.intro hOk' (And.intro hEv' (And.intro hmu (And.intro hown9 (And.intro hg (And.intro (step_below hBw hBd) (And.intro (hsl.below (Nat.le_refl _) hBd) hBd.size)))))))))
          clear hR hmu hOk hEv hI9 hown9 hg hBw hsl hdn hth1 hth2 hBd hId hF hlo2 hR' hmu' hOk' hEv' hS'
          go_wp2_with fail
          with_reducible refine cQ.mono ?_
          rintro ed We ⟨⟨u, rfl⟩, hMv⟩
          clear cQ
          have HMV := Lib.hid hMv
          clear hMv
          go_wp2_with fail
          go_roundw
          case rel =>
            obtain ⟨own', hI', ho', hk'⟩ := HMV.out
            obtain ⟨hR', hmu', hOk', hEv', hmu, hown9, hg, hBw, hsl, hsz⟩ := HN1.out
            refine ⟨k + 1, S', own', mu', hl', by omega, by go_num, hR', by omega, hOk', hEv', hI', fun i q => ?_, Nat.le_trans hg (Nat.le_trans hsz hk'.size), hk'.belowM hBw hBw.size (fun i q => Nat.le_trans HA.out.2.2.2.2.2.2.2.1 (hown9 i q).1), hk'.sle hsl (fun hp bb o e q => ?_)⟩
            · rcases ho' i q with z | z
              · exact hown9 i z
              · have h9 : g9 <= i := Nat.le_trans hg (Nat.le_trans hsz z)
                have h8 := HA.out.2.2.2.2.2.2.2.1
                have hp := HWP.out
                exact ⟨by omega, .inr h9⟩
            · have h1 := HA.out.2.2.2.1 hp bb o e
              have h2 := (hown9 bb q).2
              omega
          case measure => simp [intOf]; omega
end Go.Proofs.YtmhfpjnkjlhbpaaGreatDoor
namespace Go.Proofs.YtmhfpjnkjlhbpaaGreatDoor
open Go.Joins Go.ChangeShapes Go.WideShapes Go.ChangeAt Go.RowKit Go.Deep
set_option linter.unusedVariables false
set_option maxRecDepth 100000
set_option linter.unusedSimpArgs false
section
variable {H : Type} {enc : TypeId × Value -> H} {P : Program} {w : World} {base : Nat} {spare : Nat -> Bool} {held : Bool}
theorem agg_u8 {r : Reach} {b0 : Nat} {t : TypeId} {fs : Array Field} {v : Value} {d : DataW H} {p : List MemPlace} (hs : P.underlying t = some (.struct fs)) (hone : oneCellFields P fs = true) (hC : P.cellsOf t = fs.size)
    (hk : ∀ (i : Nat) (f : Field), fs[i]? = some f -> P.underlying f.type = some (.int .u8))
    (hv : Value.okWide P w r b0 t v) (h : DataW.Trod enc P w base spare held t v d p) :
    ∃ l : List Nat, l.length = fs.size /\ v = .agg (l.map fun n : Nat => Value.int .u8 (n : Int)).toArray /\ ∀ n ∈ l, n <= 255 := by
  obtain ⟨cs, rfl, hsz⟩ := okWide_struct hs hv
  obtain ⟨l⟩ := cs
  obtain ⟨fuel, hf⟩ := h
  obtain ⟨xs, n, _, _, _, hxl, hg⟩ := DataW.trod_struct hs hf
  have hl : l.length = fs.size := hsz.trans hC
  have hall : ∀ i, i < fs.size -> ∃ k : Nat, k <= 255 /\ l.getD i undef = .int .u8 (k : Int) := fun i hi => by
    have hfi : fs[i]? = some fs[i] := Array.getElem?_eq_getElem hi
    obtain ⟨ho, hc1⟩ := hone_of hone i _ hfi
    have hg' : DataW.trod enc P w base spare held n fs[i].type ((l.drop fs[i].offset).take (P.cellsOf fs[i].type)) = xs[i]? := hg i _ hfi
    rw [ho, hc1, take1_drop l i undef (by omega)] at hg'
    obtain ⟨y, hy⟩ : ∃ y, xs[i]? = some y := ⟨xs[i]'(by omega), List.getElem?_eq_getElem (by omega)⟩
    obtain ⟨k, e, _, hw⟩ := DataW.trod_int (hk i _ hfi) (hg'.trans hy)
    have e' : l.getD i undef = .int .u8 k := by simpa using e
    have hb := bounds_u8 hw
    exact ⟨k.toNat, by omega, by rw [e', Int.toNat_of_nonneg hb.1]⟩
  refine ⟨l.map fun v => (match v with | .int _ k => k.toNat | _ => 0), by rw [List.length_map]; exact hl, ?_, fun n hn => ?_⟩
  · congr 1
    congr 1
    refine List.ext_getElem (by rw [List.length_map, List.length_map]) fun i h1 h2 => ?_
    obtain ⟨k, hk1, hk2⟩ := hall i (by omega)
    rw [List.getD_eq_getElem?_getD, List.getElem?_eq_getElem h1] at hk2
    have e : l[i] = Value.int .u8 (k : Int) := hk2
    rw [List.getElem_map, List.getElem_map, e]
    show Value.int .u8 (k : Int) = Value.int .u8 (((k : Int).toNat : Nat) : Int)
    rw [Int.toNat_natCast]
  · obtain ⟨x, hx, rfl⟩ := List.mem_map.1 hn
    obtain ⟨i, hi, rfl⟩ := List.getElem_of_mem hx
    obtain ⟨k, hk1, hk2⟩ := hall i (by omega)
    rw [List.getD_eq_getElem?_getD, List.getElem?_eq_getElem hi] at hk2
    have e : l[i] = Value.int .u8 (k : Int) := hk2
    rw [e]
    show (k : Int).toNat <= 255
    rw [Int.toNat_natCast]; exact hk1
end
end Go.Proofs.YtmhfpjnkjlhbpaaGreatDoor
