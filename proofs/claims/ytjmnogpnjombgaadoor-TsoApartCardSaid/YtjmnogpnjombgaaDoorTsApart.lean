/- TsoApart. -/
import Derived.Test.YtjmnogpnjombgaaDoorTsB3
import Derived.Test.YtjmnogpnjombgaaDoorTsApartP
import Derived.Test.YtjmnogpnjombgaaDoorTsBuf
import Derived.Test.YtjmnogpnjombgaaDoorThEql
import Derived.Test.YtjmnogpnjombgaaDoorTwoM
import Derived.Deep.QuietTactic
import Derived.BigQuiet
namespace Go.Proofs.YtjmnogpnjombgaaDoor
open Go.ChangeShapes Go.WideShapes Go.ChangeAt Go.RowKit Go.Deep
set_option linter.unusedVariables false
set_option maxRecDepth 100000
set_option linter.unusedSimpArgs false

theorem make9 (w : World) : (Instr.makeSlice 28 (.int .i64 9) (.int .i64 9)).run Tryd.prog w = .ok (.slice (some ⟨w.heap.size, 0, none⟩) 9 9) (w.alloc (.cells #[.int .u32 0, .int .u32 0, .int .u32 0, .int .u32 0, .int .u32 0, .int .u32 0, .int .u32 0, .int .u32 0, .int .u32 0] 22)) := by
  obtain ⟨i, hi, hz, hs, hb⟩ := info_parts words_info5'
  have hr := run_make (P := Tryd.prog) w 28 22 i _ Tryd.underlying28 hi hz .i64 .i64 9 9 (by omega) (by omega) (by rw [hb]; omega) (by omega)
  rw [hs, show madeCells (Value.int .u32 0).cells ((9 : Int).toNat * 1) = #[.int .u32 0, .int .u32 0, .int .u32 0, .int .u32 0, .int .u32 0, .int .u32 0, .int .u32 0, .int .u32 0, .int .u32 0] from by kernel_rfl] at hr
  exact hr
/-- Does a kind ask memory, at any number. -/
theorem hasM_any (op : Int) (w : World) : Calls Tryd.prog 35 #[.int .i64 op, .int .u8 77] w fun e w' => e = .returned (.bool (askB op)) ∧ Below w.heap.size w w' := by
  by_cases h : 0 ≤ op ∧ op < 28
  · obtain ⟨i, rfl⟩ : ∃ i : Nat, op = (i : Int) := ⟨op.toNat, by omega⟩
    have hi : i < 28 := by omega
    have := List.all_eq_true.1 askB_all i (List.mem_range.2 hi)
    rw [beq_iff_eq] at this
    rw [← this]
    exact has_in i 77 hi w
  · have e : askB op = false := decide_eq_false (by omega)
    rw [e]
    exact has_out op 77 (by omega) w
theorem tsoNew_some (p : Pg) (ho : p.Ok) (t j e : Int) (h : Chk p t j e) (w : World) (ht : Tab w) (ha : p.At w) :
    Calls Tryd.prog 30 #[p.val] w fun r w' => ∃ v, r = .returned (.tuple #[v, .int .i64 e]) ∧ Below w.heap.size w w' := by
  by_cases he : e = 0
  · subst he
    exact (tsoNew_ok p ho t j h w ht ha).mono fun r w' ⟨B, h1, _, _, _, h2⟩ => ⟨_, h1, h2⟩
  · exact (tsoNew_bad p ho t j e h he w ht ha).mono fun r w' ⟨h1, h2⟩ => ⟨_, h1, h2⟩
/-- The two programs. -/
def pTwo (c d : Cd) (ab mb : Nat) (room : Int) : Pg := ⟨some ⟨ab, 0, none⟩, 2, 2, fun t => if t = 0 then c else d, some ⟨mb, 0, none⟩, 9, 9, fun _ => 0, room⟩
def pOne (c : Cd) (ab mb : Nat) (room : Int) : Pg := ⟨some ⟨ab, 0, none⟩, 1, 1, fun _ => c, some ⟨mb, 0, none⟩, 9, 9, fun _ => 0, room⟩
theorem pTwo_ok {c d : Cd} (hc : c.Ok) (hd : d.Ok) (ab mb : Nat) {room : Int} (h1 : 1 ≤ room) (h16 : room ≤ 16) : (pTwo c d ab mb room).Ok where
  hl := Nat.le_refl _
  hm := by show 2 ≤ maxLen; unfold maxLen; omega
  ml := Nat.le_refl _
  mm := by show 9 ≤ maxLen; unfold maxLen; omega
  cds := fun t ht => by
    show (if t = 0 then c else d : Cd).Ok
    split
    · exact hc
    · exact hd
  z0 := fun i hi => ⟨Int.le_refl _, by show (0 : Int) ≤ _; omega⟩
  r0 := by show _ ≤ room; omega
  r1 := by show room ≤ _; omega
theorem pOne_ok {c : Cd} (hc : c.Ok) (ab mb : Nat) {room : Int} (h1 : 1 ≤ room) (h16 : room ≤ 16) : (pOne c ab mb room).Ok where
  hl := Nat.le_refl _
  hm := by show 1 ≤ maxLen; unfold maxLen; omega
  ml := Nat.le_refl _
  mm := by show 9 ≤ maxLen; unfold maxLen; omega
  cds := fun t ht => hc
  z0 := fun i hi => ⟨Int.le_refl _, by show (0 : Int) ≤ _; omega⟩
  r0 := by show _ ≤ room; omega
  r1 := by show room ≤ _; omega
def nineA : Array Value := #[.int .u32 0, .int .u32 0, .int .u32 0, .int .u32 0, .int .u32 0, .int .u32 0, .int .u32 0, .int .u32 0, .int .u32 0]
theorem nine_at {W : World} {mb : Nat} (h : Blk W mb 22 nineA) : Sl W (some ⟨mb, 0, none⟩) 9 (fun _ => .int .u32 0) := fun _ => ⟨mb, 0, rfl, h.lt, fun i hi => by
  rw [h.cell]
  rcases (by omega : i = 0 ∨ i = 1 ∨ i = 2 ∨ i = 3 ∨ i = 4 ∨ i = 5 ∨ i = 6 ∨ i = 7 ∨ i = 8) with rfl | rfl | rfl | rfl | rfl | rfl | rfl | rfl | rfl <;> rfl⟩
theorem pTwo_at {W : World} {c d : Cd} {ab mb : Nat} {room : Int} (ha : Blk W ab 26 #[.slice c.A c.len c.cap, .slice d.A d.len d.cap]) (hm : Blk W mb 22 nineA) (hc : c.At W) (hd : d.At W) : (pTwo c d ab mb room).At W where
  codes := fun _ => ⟨ab, 0, rfl, ha.lt, fun i hi => by
    have hi : i < 2 := hi
    rw [ha.cell]
    rcases (by omega : i = 0 ∨ i = 1) with rfl | rfl <;> rfl⟩
  code := fun t ht => by
    show (if t = 0 then c else d : Cd).At W
    split
    · exact hc
    · exact hd
  mem := nine_at hm
theorem pOne_at {W : World} {c : Cd} {ab mb : Nat} {room : Int} (ha : Blk W ab 26 #[.slice c.A c.len c.cap]) (hm : Blk W mb 22 nineA) (hc : c.At W) : (pOne c ab mb room).At W where
  codes := fun _ => ⟨ab, 0, rfl, ha.lt, fun i hi => by
    have hi : i < 1 := hi
    rw [ha.cell]
    obtain rfl : i = 0 := by omega
    rfl⟩
  code := fun t ht => hc
  mem := nine_at hm
theorem two_one {c d : Cd} {ab mb ab2 : Nat} {room t j : Int} (h : Chk (pTwo c d ab mb room) t j 0) : Chk (pOne c ab2 mb room) 0 0 0 := by
  generalize he : (0 : Int) = e at h
  cases h with
  | args _ => exact absurd he (by decide)
  | mem _ _ _ _ _ => exact absurd he (by decide)
  | long _ _ _ _ _ _ _ _ _ => exact absurd he (by decide)
  | form _ _ _ _ _ _ _ _ _ _ _ _ _ => exact absurd he (by decide)
  | fine h1 h2 h3 h4 h5 h6 => exact .fine (by show 1 ≤ 1; omega) (by show 1 ≤ 8; omega) h3 h4 h5 (fun s hs => h6 0 (by show 0 < 2; omega))
theorem apRun_tRun (C : MB) : ∀ (l : List (Int × Int)) (u : Mst), apRun C u l = tRun C u (l.filter fun x => x.2 == 0)
  | [], u => rfl
  | x :: l, u => by
    show apRun C (if x.2 = 0 then tPick C u x else u) l = _
    rw [apRun_tRun C l, List.filter_cons]
    by_cases h : x.2 = 0
    · rw [if_pos h, if_pos (by simpa using h)]; rfl
    · rw [if_neg h, if_neg (by simpa using h)]

set_option maxHeartbeats 8000000 in
theorem tsoApart_true (c d : Cd) (hc : c.Ok) (hd : d.Ok) (A : Option Addr) (n cap : Nat) (F : Nat → Int × Int) (r : Int) (hr0 : 0 ≤ r) (hr1 : r ≤ 255) (w : World) (hT : Tab w) (hca : c.At w) (hda : d.At w) (hs : SlE w A n 2 (fun i => pkc (F i))) :
    Calls Tryd.prog 10 #[.slice c.A c.len c.cap, .slice d.A d.len d.cap, .slice A n cap, .int .u8 r] w fun e w' => e = .returned (.bool true) ∧ Below w.heap.size w w' := by
  have cA := awake_any w hT
  have hN := hT.1
  have HH := Lib.hid (And.intro hT (And.intro hca (And.intro hda (And.intro hs (And.intro hc hd)))))
  have hmk := make9
  clear hT hca hda hs hc hd
  go_enter Tryd.func10, Tryd.ntmps10
  go_wp2_with fail
  with_reducible refine cA.mono ?_
  rintro e W1 ⟨rfl, hB1⟩
  have HB1 := Lib.hid hB1
  clear cA hB1
  by_cases hsm : c.len ≤ 400 ∧ d.len ≤ 400 ∧ n ≤ 600
  case neg =>
    have cA := awake_any W1 (HH.out.1.step HB1.out)
    rcases (by omega : 400 < c.len ∨ (c.len ≤ 400 ∧ 400 < d.len) ∨ (c.len ≤ 400 ∧ d.len ≤ 400 ∧ 600 < n)) with hr | ⟨hr, hr2⟩ | ⟨hr, hr2, hr3⟩
    case' inl =>
      have h1 : (400 : Int) < (c.len : Int) := by omega
    case' inr.inl =>
      have h1 : ¬ (400 : Int) < (c.len : Int) := by omega
      have h2 : (400 : Int) < (d.len : Int) := by omega
      clear hr2
    case' inr.inr =>
      have h1 : ¬ (400 : Int) < (c.len : Int) := by omega
      have h2 : ¬ (400 : Int) < (d.len : Int) := by omega
      have h3 : (600 : Int) < (n : Int) := by omega
      clear hr2 hr3
    all_goals
      clear hsm hr
      go_wp2_with fail
      with_reducible refine cA.mono ?_
      rintro e W3 ⟨rfl, hB3⟩
      have HB3 := Lib.hid (step_below HB1.out hB3)
      clear cA hB3
      go_wp2
      go_ret
      exact ⟨rfl, HB3.out⟩
  case pos =>
    obtain ⟨hlc, hld, hn6⟩ := hsm
    have h1 : ¬ (400 : Int) < (c.len : Int) := by omega
    have h2 : ¬ (400 : Int) < (d.len : Int) := by omega
    have h3 : ¬ (600 : Int) < (n : Int) := by omega
    have HL := Lib.hid (And.intro hlc (And.intro hld hn6))
    clear hlc hld hn6
    go_wp2_with fail
    clear h1 h2 h3
    go_loopw [9] (fun i wr => ∃ k : Nat, k ≤ d.len ∧ i = .int .i64 (k : Int) ∧ Hid (∀ i, i < k → askB (d.F i).op = false ∧ (d.F i).op ≠ 25) ∧ Below w.heap.size w wr) (fun i _ => d.len - (intOf i).toNat)
    case atStart => exact ⟨0, Nat.zero_le _, rfl, Lib.hid (fun i hi => absurd hi (by omega)), HB1.out⟩
    case round =>
      obtain ⟨k, hk, rfl, HK, hB⟩ := hrel
      by_cases hkn : k < d.len
      · have hk0 : (0 : Int) ≤ (k : Int) := by omega
        have hk1 : (k : Int) < (d.len : Int) := by omega
        obtain ⟨b, off, hbo, hlt, hcc⟩ := (HH.out.2.2.1.step hB) (by omega)
        rw [hbo]
        have z0 := hcc k hkn 0 _ rfl
        rw [Nat.add_zero] at z0
        obtain ⟨op, hop⟩ : ∃ op, (d.F k).op = op := ⟨_, rfl⟩
        rw [hop] at z0
        have cH := hasM_any op wr
        have HZ := Lib.hid (And.intro hop (And.intro hlt z0))
        have HB := Lib.hid hB
        clear hcc hop hlt hB
        go_wp2_with fail
        with_reducible refine cH.mono ?_
        rintro e W2 ⟨rfl, hb2⟩
        have HB2 := Lib.hid (step_below HB.out hb2)
        have z1 := keepAt hb2 HZ.out.2.1 HZ.out.2.2
        clear cH z0 hb2
        cases hask : askB op
        case true =>
          go_wp2
          go_ret
          exact ⟨rfl, HB2.out⟩
        case false =>
          by_cases h25 : op = 25
          · subst h25
            go_wp2
            go_ret
            exact ⟨rfl, HB2.out⟩
          · have h25' : (op == 25) = false := by simpa using h25
            go_wp2
            go_roundw
            case rel =>
              refine ⟨k + 1, by omega, by go_num, Lib.hid (fun i hi => ?_), HB2.out⟩
              rcases Nat.lt_or_ge i k with q | q
              · exact HK.out i q
              · obtain rfl : i = k := by omega
                rw [HZ.out.1]
                exact ⟨hask, h25⟩
            case measure => simp [intOf]; omega
      · obtain rfl : k = d.len := by omega
        have hk1 : ¬ (d.len : Int) < (d.len : Int) := by omega
        have HBL := Lib.hid hB
        clear hB
        have e16 : 0 ≤ r % 16 := by omega
        have e17 : r % 16 < 16 := by omega
        obtain ⟨wo, rfl⟩ : ∃ wo : World, wo = wr := ⟨_, rfl⟩
        go_upto_region 9 with fail
        have hm0 := Blk.new wo 22 #[.int .u32 0, .int .u32 0, .int .u32 0, .int .u32 0, .int .u32 0, .int .u32 0, .int .u32 0, .int .u32 0, .int .u32 0]
        have hb9 := HBL.out.alloc HBL.out.size (.cells #[.int .u32 0, .int .u32 0, .int .u32 0, .int .u32 0, .int .u32 0, .int .u32 0, .int .u32 0, .int .u32 0, .int .u32 0] 22)
        obtain ⟨mb, hmb⟩ : ∃ mb, wo.heap.size = mb := ⟨_, rfl⟩
        rw [hmb] at hm0
        try rw [hmb]
        clear hmb hmk
        generalize wo.alloc (.cells #[.int .u32 0, .int .u32 0, .int .u32 0, .int .u32 0, .int .u32 0, .int .u32 0, .int .u32 0, .int .u32 0, .int .u32 0] 22) = W9 at hm0 hb9 ⊢
        have ha0 := Blk.new W9 26 #[.slice c.A c.len c.cap, .slice d.A d.len d.cap]
        have hal := (Below.refl W9.heap.size W9).alloc (Nat.le_refl _) (.cells #[.slice c.A c.len c.cap, .slice d.A d.len d.cap] 26)
        obtain ⟨ab, hab⟩ : ∃ ab, W9.heap.size = ab := ⟨_, rfl⟩
        rw [hab] at ha0
        have hBw := step_below hb9 hal
        have hT9 := HH.out.1.step hBw
        have hAt : (pTwo c d ab mb (1 + r % 16)).At (W9.alloc (.cells #[.slice c.A c.len c.cap, .slice d.A d.len d.cap] 26)) := pTwo_at ha0 (hm0.below hal hm0.lt) (HH.out.2.1.step hBw) (HH.out.2.2.1.step hBw)
        have hok : (pTwo c d ab mb (1 + r % 16)).Ok := pTwo_ok HH.out.2.2.2.2.1 HH.out.2.2.2.2.2 ab mb (by omega) (by omega)
        obtain ⟨tt, jj, ee, hchk⟩ := chk_some (pTwo c d ab mb (1 + r % 16))
        have hm1 := hm0.below hal hm0.lt
        have HA := Lib.hid (And.intro hm1 (And.intro hBw (And.intro hok hchk)))
        by_cases hee : ee = 0
        case neg =>
          have cN : Calls Tryd.prog 30 #[.agg #[.slice (some ⟨ab, 0, none⟩) 2 2, .slice (some ⟨mb, 0, none⟩) 9 9, .int .i64 (1 + r % 16)]] _ _ := tsoNew_bad (pTwo c d ab mb (1 + r % 16)) hok tt jj ee hchk hee _ hT9 hAt
          have hee' : (ee != 0) = true := by simpa using hee
          clear hchk hee hok hAt hT9 hBw hal ha0 hm0 hm1 hb9
          go_wp2_with fail
          try rw [hab]
          clear hab
          with_reducible refine cN.mono ?_
          rintro e W3 ⟨rfl, hB3⟩
          have hBw3 := step_below HA.out.2.1 hB3
          have hm3 := HA.out.1.below hB3 HA.out.1.lt
          have ha1 := Blk.new W3 26 #[.slice c.A c.len c.cap]
          have hal := (Below.refl W3.heap.size W3).alloc (Nat.le_refl _) (.cells #[.slice c.A c.len c.cap] 26)
          obtain ⟨ab2, hab⟩ : ∃ ab, W3.heap.size = ab := ⟨_, rfl⟩
          rw [hab] at ha1
          have hBw4 := step_below hBw3 hal
          obtain ⟨t2, j2, e2, hchk2⟩ := chk_some (pOne c ab2 mb (1 + r % 16))
          have cN2 : Calls Tryd.prog 30 #[.agg #[.slice (some ⟨ab2, 0, none⟩) 1 1, .slice (some ⟨mb, 0, none⟩) 9 9, .int .i64 (1 + r % 16)]] _ _ := tsoNew_some (pOne c ab2 mb (1 + r % 16)) (pOne_ok HH.out.2.2.2.2.1 ab2 mb (by omega) (by omega)) t2 j2 e2 hchk2 _ (HH.out.1.step hBw4)
            (pOne_at ha1 (hm3.below hal hm3.lt) (HH.out.2.1.step hBw4))
          have H4 := Lib.hid hBw4
          clear cN ha1 hal hBw3 hBw4 hB3 hchk2 hm3
          go_wp2_with fail
          try rw [hab]
          clear hab
          with_reducible refine cN2.mono ?_
          rintro e W5 ⟨v5, rfl, hB5⟩
          have H5 := Lib.hid (step_below H4.out hB5)
          clear cN2 hB5
          go_wp2
          go_ret
          exact ⟨rfl, H5.out⟩
        case pos =>
          subst hee
          have cN : Calls Tryd.prog 30 #[.agg #[.slice (some ⟨ab, 0, none⟩) 2 2, .slice (some ⟨mb, 0, none⟩) 9 9, .int .i64 (1 + r % 16)]] _ _ := tsoNew_ok (pTwo c d ab mb (1 + r % 16)) hok tt jj hchk _ hT9 hAt
          have hszA := hBw.size
          clear hchk hok hAt hT9 hBw hal ha0 hm0 hm1 hb9
          go_wp2_with fail
          try rw [hab]
          clear hab
          with_reducible refine cN.mono ?_
          rintro e W3 ⟨BA, rfl, hNMA, hroA, hIA, hB3⟩
          have hBw3 := step_below HA.out.2.1 hB3
          have hm3 := HA.out.1.below hB3 HA.out.1.lt
          have ha1 := Blk.new W3 26 #[.slice c.A c.len c.cap]
          have hal := (Below.refl W3.heap.size W3).alloc (Nat.le_refl _) (.cells #[.slice c.A c.len c.cap] 26)
          obtain ⟨ab2, hab⟩ : ∃ ab, W3.heap.size = ab := ⟨_, rfl⟩
          rw [hab] at ha1
          have hBw4 := step_below hBw3 hal
          have hchk2 := two_one (ab2 := ab2) HA.out.2.2.2
          have hok2 : (pOne c ab2 mb (1 + r % 16)).Ok := pOne_ok HH.out.2.2.2.2.1 ab2 mb (by omega) (by omega)
          have cN2 : Calls Tryd.prog 30 #[.agg #[.slice (some ⟨ab2, 0, none⟩) 1 1, .slice (some ⟨mb, 0, none⟩) 9 9, .int .i64 (1 + r % 16)]] _ _ := tsoNew_ok (pOne c ab2 mb (1 + r % 16)) hok2 0 0 hchk2 _ (HH.out.1.step hBw4)
            (pOne_at ha1 (hm3.below hal hm3.lt) (HH.out.2.1.step hBw4))
          have H4 := Lib.hid (And.intro hBw4 (And.intro hNMA (And.intro hroA (And.intro hIA (And.intro hB3.size (And.intro hal (And.intro hszA hok2)))))))
          clear cN ha1 hal hBw3 hBw4 hB3 hchk2 hm3 hNMA hroA hIA hszA hok2
          go_wp2_with fail
          try rw [hab]
          clear hab
          with_reducible refine cN2.mono ?_
          rintro e W5 ⟨BB, rfl, hNMB, hroB, hIB, hB5⟩
          have hBw5 := step_below H4.out.1 hB5
          have hTM : TwoM tsoL tsoL BA BB (t0 (pTwo c d ab mb (1 + r % 16))) (t0 (pOne c ab2 mb (1 + r % 16))) w.heap.size w W5 := TwoM.make H4.out.2.2.2.1 hIB H4.out.2.2.2.2.2.1.size (step_below H4.out.2.2.2.2.2.1 hB5) hBw5 H4.out.2.2.2.2.2.2.1 H4.out.2.2.2.2.1
          have hMA : MBok BA := newM_ok H4.out.2.1 (by show 2 ≤ 8; omega) (by show 9 ≤ 1024; omega)
          have hMB : MBok BB := newM_ok hNMB (by show 1 ≤ 8; omega) (by show 9 ≤ 1024; omega)
          have hoA := t0_ok HA.out.2.2.1 H4.out.2.1
          have hoB := t0_ok H4.out.2.2.2.2.2.2.2 hNMB
          have hrA : BA.room = 1 + r % 16 := H4.out.2.2.1
          have hrB : BB.room = 1 + r % 16 := hroB
          have hcA : mCan BA (3 + 3 * n) (t0 (pTwo c d ab mb (1 + r % 16))) := t0_can (by show 2 ≤ 8; omega) _ (by have := HL.out.2.2; omega)
          have hcB : mCan BB (3 + 3 * n) (t0 (pOne c ab2 mb (1 + r % 16))) := t0_can (by show 1 ≤ 8; omega) _ (by have := HL.out.2.2; omega)
          have hApB : ApB BA BB := by
            refine ⟨H4.out.2.1.m.trans hNMB.m.symm, hrA.trans hrB.symm, H4.out.2.1.n, hNMB.n, ?_, fun i hi => ?_, fun i hi => ?_⟩
            · rw [(H4.out.2.1.cd 0 (by show 0 < 2; omega)).1, (hNMB.cd 0 (by show 0 < 1; omega)).1]; rfl
            · rw [(H4.out.2.1.cd 0 (by show 0 < 2; omega)).2.1, (hNMB.cd 0 (by show 0 < 1; omega)).2.1]; rfl
            · rw [(H4.out.2.1.cd 1 (by show 1 < 2; omega)).1] at hi
              rw [(H4.out.2.1.cd 1 (by show 1 < 2; omega)).2.1]
              exact HK.out i hi
          have cR : Calls Tryd.prog 31 #[.pointer (some ⟨BA.mb, 0, none⟩), .slice A n cap] W5 fun e W' => (∃ v, e = .returned v) ∧ TwoM tsoL tsoL BA BB (tRun BA (t0 (pTwo c d ab mb (1 + r % 16))) ((List.range n).map F)) (t0 (pOne c ab2 mb (1 + r % 16))) w.heap.size w W' :=
            hTM.calls (R := fun e => ∃ v, e = .returned v) (fun oa h hlo => trun_any BA hMA (t0 (pTwo c d ab mb (1 + r % 16))) (by rw [hrA]; omega) hoA A n cap F hcA oa W5 h (HH.out.1.step hBw5) (HH.out.2.2.2.1.step hBw5) (fun hn b o e hb => by
              have h1 := hlo b hb
              have h2 := sle_old HH.out.2.2.2.1 hn b o e
              omega) (by have := HL.out.2.2; omega))
          have HN := Lib.hid (And.intro hMA (And.intro hMB (And.intro hoA (And.intro hoB (And.intro hrA (And.intro hrB (And.intro hcA (And.intro hcB hApB))))))))
          clear cN2 hNMB hroB hIB hB5 hBw5 hTM hMA hMB hoA hoB hrA hrB hcA hcB hApB
          go_wp2_with fail
          with_reducible refine cR.mono ?_
          rintro e W6 ⟨⟨v6, rfl⟩, hT6⟩
          obtain ⟨s5, hs5⟩ : ∃ s5, tRun BA (t0 (pTwo c d ab mb (1 + r % 16))) ((List.range n).map F) = s5 := ⟨_, rfl⟩
          rw [hs5] at hT6
          have H6 := Lib.hid (And.intro hT6 hs5)
          clear cR hT6 hs5
          go_wp2
          obtain ⟨wo3, hwo⟩ : ∃ w0 : World, w0 = wo := ⟨_, rfl⟩
          clear hwo
          go_loopw [15] (fun i wr => ∃ k : Nat, k ≤ n ∧ i = .int .i64 (k : Int) ∧ Hid (TwoM tsoL tsoL BA BB s5 (apRun BB (t0 (pOne c ab2 mb (1 + r % 16))) ((List.range k).map F)) w.heap.size w wr)) (fun i _ => n - (intOf i).toNat)
          case atStart => exact ⟨0, Nat.zero_le _, rfl, Lib.hid H6.out.1⟩
          case round =>
            obtain ⟨k, hk, rfl, HT⟩ := hrel
            have hn6 : n ≤ 600 := HL.out.2.2
            by_cases hkn : k < n
            · have hk0 : (0 : Int) ≤ (k : Int) := by omega
              have hk1 : (k : Int) < (n : Int) := by omega
              obtain ⟨b, off, hbo, hlt, hcc⟩ := HH.out.2.2.2.1 (by omega)
              rw [hbo]
              have k0 := hcc k hkn 0 (.int .i64 (F k).1) rfl
              have k1 := hcc k hkn 1 (.int .i64 (F k).2) rfl
              rw [Nat.add_zero] at k0
              obtain ⟨x, hx⟩ : ∃ x, F k = x := ⟨_, rfl⟩
              rw [hx] at k0 k1
              replace k0 := keepAt HT.out.bel hlt k0
              replace k1 := keepAt HT.out.bel hlt k1
              have e1 : apRun BB (t0 (pOne c ab2 mb (1 + r % 16))) ((List.range (k + 1)).map F) = (if x.2 = 0 then tPick BB (apRun BB (t0 (pOne c ab2 mb (1 + r % 16))) ((List.range k).map F)) x else apRun BB (t0 (pOne c ab2 mb (1 + r % 16))) ((List.range k).map F)) := by
                unfold apRun
                rw [List.range_succ, List.map_append, List.foldl_append, List.map_cons, List.map_nil, hx]
                rfl
              have HE := Lib.hid e1
              clear e1 hcc hx hlt hbo
              by_cases hx2 : x.2 = 0
              · obtain ⟨x1, x2⟩ := x
                dsimp only at hx2 k0 k1
                subst hx2
                have cP : Calls Tryd.prog 36 #[.pointer (some ⟨BB.mb, 0, none⟩), .agg #[.int .i64 x1, .int .i64 0]] wr fun e W' => (∃ v, e = .returned v) ∧ TwoM tsoL tsoL BB BA (tPick BB (apRun BB (t0 (pOne c ab2 mb (1 + r % 16))) ((List.range k).map F)) (x1, 0)) s5 w.heap.size w W' :=
                  HT.out.swap.calls (R := fun e => ∃ v, e = .returned v) (fun oa h _ => by
                    have hl9 : ((List.range k).map F).length = k := by rw [List.length_map, List.length_range]
                    have hf9 := List.length_filter_le (fun x : Int × Int => x.2 == 0) ((List.range k).map F)
                    have hok9 : TOk BB (apRun BB (t0 (pOne c ab2 mb (1 + r % 16))) ((List.range k).map F)) := by rw [apRun_tRun]; exact tRun_ok HN.out.2.1 _ _ HN.out.2.2.2.1
                    have hcan9 : mCan BB 3 (apRun BB (t0 (pOne c ab2 mb (1 + r % 16))) ((List.range k).map F)) := by
                      rw [apRun_tRun]
                      refine tRun_can HN.out.2.1 (by rw [HN.out.2.2.2.2.2.1]; omega) _ _ 3 HN.out.2.2.2.1 ?_
                      have hc := HN.out.2.2.2.2.2.2.2.1
                      rw [hl9] at hf9
                      exact ⟨by have := hc.evs; omega, by have := hc.slp; omega, hc.who, hc.buf, hc.t8⟩
                    exact tpick_any BB HN.out.2.1 (by rw [HN.out.2.2.2.2.2.1]; omega) _ hok9 hcan9 oa wr h (HH.out.1.step HT.out.bel) (x1, 0))
                go_wp2_with fail
                with_reducible refine cP.mono ?_
                rintro e W7 ⟨⟨v7, rfl⟩, hT7⟩
                have HT7 := Lib.hid hT7.swap
                clear cP hT7 k0 k1
                go_wp2
                go_roundw
                case rel => exact ⟨k + 1, by omega, by go_num, Lib.hid (by rw [HE.out]; exact HT7.out)⟩
                case measure => simp [intOf]; omega
              · have hx2' : (x.2 == 0) = false := by simpa using hx2
                go_wp2
                go_roundw
                case rel => exact ⟨k + 1, by omega, by go_num, Lib.hid (by rw [HE.out, if_neg hx2]; exact HT.out)⟩
                case measure => simp [intOf]; omega
            · obtain rfl : k = n := by omega
              have hk1 : ¬ (k : Int) < (k : Int) := by omega
              have hap := ap_run HN.out.2.2.2.2.2.2.2.2 HN.out.1 ((List.range k).map F) _ _ (ap_start (p := pTwo c d ab mb (1 + r % 16)) (q := pOne c ab2 mb (1 + r % 16)) rfl rfl rfl) HN.out.2.2.1
              rw [H6.out.2] at hap
              have hoA5 : TOk BA s5 := by rw [← H6.out.2]; exact tRun_ok HN.out.1 _ _ HN.out.2.2.1
              have hT9 := HT.out
              generalize apRun BB (t0 (pOne c ab2 mb (1 + r % 16))) ((List.range k).map F) = u5 at hap hT9
              obtain ⟨oa, ob, hia, hib, _, _, _⟩ := hT9.ex
              have hlA : s5.mem.length = 9 := by
                obtain ⟨V, bcs, h⟩ := hia
                rw [h.mem]; exact H4.out.2.1.m
              have HP := Lib.hid (And.intro hap (And.intro hoA5 hlA))
              have cX : Calls Tryd.prog 37 #[.pointer (some ⟨BA.mb, 0, none⟩)] wr fun e W' => (∃ v, e = .returned v ∧ W'.ownsRow wr.heap.size 25 10 v s5.ths.length (s5.ths.flatMap Th.cells)) ∧ Below wr.heap.size wr W' :=
                (tthreads_any BA s5 oa wr hia (by rw [hap.n2]; omega)).mono fun e W' ⟨v, h1, h2, h3⟩ => ⟨⟨v, h1, h2⟩, h3⟩
              have HT9 := Lib.hid hT9
              clear hap hT9 hia hib hoA5 hlA
              go_upto_region 19 with fail
              go_wp2_with fail
              with_reducible refine cX.mono ?_
              rintro e W7 ⟨⟨xv, rfl, hxv⟩, hb7⟩
              obtain ⟨xA, xc, rfl, _, hsx⟩ := own_sle Th.cells th_len10 tha s5.ths hxv
              have hT7 := HT9.out.below hb7
              have cY : Calls Tryd.prog 37 #[.pointer (some ⟨BB.mb, 0, none⟩)] W7 fun e W' => (∃ v, e = .returned v ∧ W'.ownsRow W7.heap.size 25 10 v u5.ths.length (u5.ths.flatMap Th.cells)) ∧ Below W7.heap.size W7 W' :=
                hT7.swap.tells (R := fun e W' => ∃ v, e = .returned v ∧ W'.ownsRow W7.heap.size 25 10 v u5.ths.length (u5.ths.flatMap Th.cells)) (fun oa h => (tthreads_any BB u5 oa W7 h (by rw [HP.out.1.n1]; omega)).mono fun e W' ⟨v, h1, h2, h3⟩ => ⟨⟨v, h1, h2⟩, h3⟩)
              have H7 := Lib.hid (And.intro hT7 hsx)
              rw [HP.out.1.n2]
              clear cX hxv hb7 hT7 hsx
              go_wp2_with fail
              with_reducible refine cY.mono ?_
              rintro e W8 ⟨⟨yv, rfl, hyv⟩, hb8⟩
              obtain ⟨yA, yc, rfl, _, hsy⟩ := own_sle Th.cells th_len10 tha u5.ths hyv
              rw [HP.out.1.n1]
              have hT8 := H7.out.1.below hb8
              have H8 := Lib.hid (And.intro hT8 (And.intro (H7.out.2.step hb8) hsy))
              have cX : Calls Tryd.prog 38 #[.pointer (some ⟨BA.mb, 0, none⟩)] W8 fun e W' => (∃ v, e = .returned v ∧ W'.ownsRow W8.heap.size 22 1 v s5.mem.length (s5.mem.map fun z => .int .u32 z)) ∧ Below W8.heap.size W8 W' :=
                hT8.tells (R := fun e W' => ∃ v, e = .returned v ∧ W'.ownsRow W8.heap.size 22 1 v s5.mem.length (s5.mem.map fun z => .int .u32 z)) (fun oa h => (tmem_any BA s5 oa W8 h (by rw [HP.out.2.2]; omega)).mono fun e W' ⟨v, h1, h2, h3⟩ => ⟨⟨v, h1, h2⟩, h3⟩)
              clear cY hyv hb8 hsy hT8
              go_wp2_with fail
              with_reducible refine cX.mono ?_
              rintro e W9 ⟨⟨mv, rfl, hmv⟩, hb9⟩
              rw [HP.out.2.2] at hmv
              obtain ⟨mA, mc, rfl, _, hmx⟩ := own_sl hmv
              have hT9 := H8.out.1.below hb9
              have cY : Calls Tryd.prog 38 #[.pointer (some ⟨BB.mb, 0, none⟩)] W9 fun e W' => (∃ v, e = .returned v ∧ W'.ownsRow W9.heap.size 22 1 v u5.mem.length (u5.mem.map fun z => .int .u32 z)) ∧ Below W9.heap.size W9 W' :=
                hT9.swap.tells (R := fun e W' => ∃ v, e = .returned v ∧ W'.ownsRow W9.heap.size 22 1 v u5.mem.length (u5.mem.map fun z => .int .u32 z)) (fun oa h => (tmem_any BB u5 oa W9 h (by rw [← HP.out.1.mem, HP.out.2.2]; omega)).mono fun e W' ⟨v, h1, h2, h3⟩ => ⟨⟨v, h1, h2⟩, h3⟩)
              have H9 := Lib.hid (And.intro hT9 (And.intro (H8.out.2.1.step hb9) (And.intro (H8.out.2.2.step hb9) hmx)))
              clear cX hmv hb9 hT9 hmx
              go_wp2_with fail
              with_reducible refine cY.mono ?_
              rintro e W10 ⟨⟨nv, rfl, hnv⟩, hb10⟩
              rw [← HP.out.1.mem, HP.out.2.2] at hnv
              obtain ⟨nA, nc, rfl, _, hnx⟩ := own_sl hnv
              have H10 := Lib.hid (And.intro (H9.out.1.below hb10) (And.intro (H9.out.2.1.step hb10) (And.intro (H9.out.2.2.1.step hb10) (And.intro (H9.out.2.2.2.step hb10) hnx))))
              clear cY hnv hb10 hnx
              go_wp2
              obtain ⟨wo4, hwo⟩ : ∃ w0 : World, w0 = wr := ⟨_, rfl⟩
              clear hwo
              go_loopw [20] (fun i wr => ∃ k : Nat, k ≤ 9 ∧ i = .int .i64 (k : Int) ∧ Below W10.heap.size W10 wr) (fun i _ => 9 - (intOf i).toNat)
              case atStart => exact ⟨0, Nat.zero_le _, rfl, Below.refl _ _⟩
              case round =>
                obtain ⟨k, hk, rfl, hB⟩ := hrel
                by_cases hkn : k < 9
                · have hk0 : (0 : Int) ≤ (k : Int) := by omega
                  have hk1 : (k : Int) < 9 := by omega
                  obtain ⟨xb, xo, rfl, hxl, hxx⟩ := (H10.out.2.2.2.1.step hB) (by omega)
                  obtain ⟨yb, yo, rfl, hyl, hyy⟩ := (H10.out.2.2.2.2.step hB) (by omega)
                  obtain ⟨z, hz⟩ : ∃ z, s5.mem.getD k 0 = z := ⟨_, rfl⟩
                  have e1 : (s5.mem.map fun z => Value.int .u32 z).getD k undef = .int .u32 z := by
                    rw [← hz]
                    simp [List.getD_eq_getElem?_getD, List.getElem?_eq_getElem (show k < s5.mem.length by rw [HP.out.2.2]; exact hkn)]
                  have hx9 : wr.cell? ⟨xb, xo + k, none⟩ = some (.int .u32 z) := by
                    rw [← e1]
                    exact hxx k (by omega)
                  have hy9 : wr.cell? ⟨yb, yo + k, none⟩ = some (.int .u32 z) := by
                    rw [← e1]
                    exact hyy k (by omega)
                  have HB := Lib.hid hB
                  clear hxx hyy hz e1 hxl hyl hB
                  go_upto_region 24 with fail
                  go_quiet (fail)
                  go_wp2
                  go_roundw
                  case rel => exact ⟨k + 1, by omega, by go_num, HB.out.trans ⟨rfl, rfl, rfl, Nat.le_refl _, fun _ _ => rfl⟩⟩
                  case measure => simp [intOf]; omega
                · obtain rfl : k = 9 := by omega
                  have hT11 := H10.out.1.below hB
                  obtain ⟨xb, xo, rfl, hxl, hxx⟩ := (H10.out.2.1.step hB) (by rw [HP.out.1.n2]; omega)
                  obtain ⟨yb, yo, rfl, hyl, hyy⟩ := (H10.out.2.2.1.step hB) (by rw [HP.out.1.n1]; omega)
                  obtain ⟨X, hX⟩ : ∃ X, s5.ths.getD 0 tha = X := ⟨_, rfl⟩
                  have hx9 : ∀ j v, (s5.ths.getD 0 tha).cells[j]? = some v → wr.cell? ⟨xb, xo + 0 * 10 + j, none⟩ = some v := hxx 0 (by rw [HP.out.1.n2]; omega)
                  have hy9 : ∀ j v, (u5.ths.getD 0 tha).cells[j]? = some v → wr.cell? ⟨yb, yo + 0 * 10 + j, none⟩ = some v := hyy 0 (by rw [HP.out.1.n1]; omega)
                  rw [hX] at hx9
                  rw [← HP.out.1.th, hX] at hy9
                  obtain ⟨bn, hbn⟩ : ∃ bn, (s5.bufs.getD 0 []).length = bn := ⟨_, rfl⟩
                  have hbn2 : (u5.bufs.getD 0 []).length = bn := by rw [← HP.out.1.buf]; exact hbn
                  have hq := fun w => th_eql X w
                  obtain ⟨ownA, ownB, hia, hib, _, _, _⟩ := (hT11.below (below_drew wr)).ex
                  have HF9 := Lib.hid (And.intro (show wr.drew.rangeAt xb xo X.cells from fun j v hv => by have := hx9 j v hv; rw [Nat.zero_mul, Nat.add_zero] at this; exact this) (And.intro (show xb < wr.drew.heap.size from hxl) (And.intro (show wr.drew.rangeAt yb yo X.cells from fun j v hv => by have := hy9 j v hv; rw [Nat.zero_mul, Nat.add_zero] at this; exact this) (And.intro (show yb < wr.drew.heap.size from hyl) (And.intro hia (And.intro hib (And.intro (show 0 < s5.bufs.length by rw [HP.out.1.b2]; omega) (And.intro hbn (And.intro (show 0 < u5.bufs.length by rw [HP.out.1.b1]; omega) (And.intro hbn2 (hT11.below (below_drew wr)).bel))))))))))
                  clear hxx hyy hX hx9 hy9 hxl hyl hB hT11 hbn hbn2 hia hib
                  go_upto_region 26 with fail
                  refine startG (fun W' => Below wr.drew.heap.size wr.drew W') 16 (by kernel_rfl) ?_
                  have HF := HF9
                  clear HF9
                  generalize wr.drew = W0 at HF ⊢
                  have hH : Below W0.heap.size W0 W0 := Below.refl _ _
                  refine takeG0 (i := 0) (v := .slice (some ⟨xb, xo, none⟩) 2 xc) rfl (by kernel_rfl) (by kernel_rfl) (by kernel_rfl) (by kernel_rfl) (fun _ _ _ h => h) (Or.inl ⟨by rfl, fun W hW => by go_simp⟩) hH ?_
                  simp only [Act.put, List.getElem_toArray, List.getElem_cons_zero, List.getElem_cons_succ, List.setIfInBounds_toArray, List.set_cons_zero, List.set_cons_succ]
                  refine takeG0 (i := 1) (v := .pointer (some ⟨xb, xo, none⟩)) rfl (by kernel_rfl) (by kernel_rfl) (by kernel_rfl) (by kernel_rfl) (fun _ _ _ h => h) (Or.inl ⟨by rfl, fun W hW => by go_simp⟩) hH ?_
                  simp only [Act.put, List.getElem_toArray, List.getElem_cons_zero, List.getElem_cons_succ, List.setIfInBounds_toArray, List.set_cons_zero, List.set_cons_succ]
                  refine takeT (i := 2) (v := .agg (thArr X)) rfl (by kernel_rfl) (by kernel_rfl) (by kernel_rfl) (by kernel_rfl) (fun _ _ _ h => h) (yieldsIf_load_mid (by rfl) 25 (.tmp 136) rfl xb xo rfl X.cells _ (fun W hW => range_below HF.out.1 HF.out.2.1 hW) Tryd.underlying25 rfl th_infoL) hH ?_
                  simp only [Act.put, List.getElem_toArray, List.getElem_cons_zero, List.getElem_cons_succ, List.setIfInBounds_toArray, List.set_cons_zero, List.set_cons_succ]
                  refine takeG0 (i := 3) (v := .slice (some ⟨yb, yo, none⟩) 1 yc) rfl (by kernel_rfl) (by kernel_rfl) (by kernel_rfl) (by kernel_rfl) (fun _ _ _ h => h) (Or.inl ⟨by rfl, fun W hW => by go_simp⟩) hH ?_
                  simp only [Act.put, List.getElem_toArray, List.getElem_cons_zero, List.getElem_cons_succ, List.setIfInBounds_toArray, List.set_cons_zero, List.set_cons_succ]
                  refine takeG0 (i := 4) (v := .pointer (some ⟨yb, yo, none⟩)) rfl (by kernel_rfl) (by kernel_rfl) (by kernel_rfl) (by kernel_rfl) (fun _ _ _ h => h) (Or.inl ⟨by rfl, fun W hW => by go_simp⟩) hH ?_
                  simp only [Act.put, List.getElem_toArray, List.getElem_cons_zero, List.getElem_cons_succ, List.setIfInBounds_toArray, List.set_cons_zero, List.set_cons_succ]
                  refine takeT (i := 5) (v := .agg (thArr X)) rfl (by kernel_rfl) (by kernel_rfl) (by kernel_rfl) (by kernel_rfl) (fun _ _ _ h => h) (yieldsIf_load_mid (by rfl) 25 (.tmp 139) rfl yb yo rfl X.cells _ (fun W hW => range_below HF.out.2.2.1 HF.out.2.2.2.1 hW) Tryd.underlying25 rfl th_infoL) hH ?_
                  simp only [Act.put, List.getElem_toArray, List.getElem_cons_zero, List.getElem_cons_succ, List.setIfInBounds_toArray, List.set_cons_zero, List.set_cons_succ]
                  refine takeG0 (i := 6) (v := .bool true) rfl (by kernel_rfl) (by kernel_rfl) (by kernel_rfl) (by kernel_rfl) (fun _ _ _ h => h) (Or.inl ⟨by rfl, fun W hW => by go_simp⟩) hH ?_
                  simp only [Act.put, List.getElem_toArray, List.getElem_cons_zero, List.getElem_cons_succ, List.setIfInBounds_toArray, List.set_cons_zero, List.set_cons_succ]
                  refine takeG0 (i := 7) (v := .bool true) rfl (by kernel_rfl) (by kernel_rfl) (by kernel_rfl) (by kernel_rfl) (fun _ _ _ h => h) (Or.inl ⟨by rfl, fun W hW => by go_simp⟩) hH ?_
                  simp only [Act.put, List.getElem_toArray, List.getElem_cons_zero, List.getElem_cons_succ, List.setIfInBounds_toArray, List.set_cons_zero, List.set_cons_succ]
                  refine takeG0 (i := 8) (v := .pointer (some ⟨BA.mb, 0, none⟩)) rfl (by kernel_rfl) (by kernel_rfl) (by kernel_rfl) (by kernel_rfl) (fun _ _ _ h => h) (Or.inl ⟨by rfl, fun W hW => by go_simp⟩) hH ?_
                  simp only [Act.put, List.getElem_toArray, List.getElem_cons_zero, List.getElem_cons_succ, List.setIfInBounds_toArray, List.set_cons_zero, List.set_cons_succ]
                  refine takeG0 (i := 11) (v := .pointer (some ⟨BB.mb, 0, none⟩)) rfl (by kernel_rfl) (by kernel_rfl) (by kernel_rfl) (by kernel_rfl) (fun _ _ _ h => h) (Or.inl ⟨by rfl, fun W hW => by go_simp⟩) hH ?_
                  simp only [Act.put, List.getElem_toArray, List.getElem_cons_zero, List.getElem_cons_succ, List.setIfInBounds_toArray, List.set_cons_zero, List.set_cons_succ]
                  refine onlyG (i := 9) (by kernel_rfl) rfl (fun K hK => ?_)
                  go_simp
                  have cB : Calls Tryd.prog 39 #[.pointer (some ⟨BA.mb, 0, none⟩), .int .i64 0] W0 _ := tbuffer_any BA s5 ownA W0 HF.out.2.2.2.2.1 0 HF.out.2.2.2.2.2.2.1 bn HF.out.2.2.2.2.2.2.2.1
                  with_reducible refine cB.mono ?_
                  rintro e V1 ⟨bA1, bc1, rfl, hb1⟩
                  have hB1 : Below W0.heap.size W0 V1 := hb1
                  refine hK.out _ _ hB1 (fun _ => ?_)
                  clear hK K cB hH hb1
                  try simp only [Act.put, List.getElem_toArray, List.getElem_cons_zero, List.getElem_cons_succ, List.setIfInBounds_toArray, List.set_cons_zero, List.set_cons_succ]
                  refine takeG0 (i := 10) (v := .int .i64 (bn : Int)) rfl (by kernel_rfl) (by kernel_rfl) (by kernel_rfl) (by kernel_rfl) (fun _ _ _ h => h) (Or.inl ⟨by rfl, fun W hW => by go_simp⟩) hB1 ?_
                  simp only [Act.put, List.getElem_toArray, List.getElem_cons_zero, List.getElem_cons_succ, List.setIfInBounds_toArray, List.set_cons_zero, List.set_cons_succ]
                  refine onlyG (i := 12) (by kernel_rfl) rfl (fun K hK => ?_)
                  go_simp
                  have cB : Calls Tryd.prog 39 #[.pointer (some ⟨BB.mb, 0, none⟩), .int .i64 0] V1 _ := tbuffer_any BB u5 ownB V1 (HF.out.2.2.2.2.2.1.below hB1) 0 HF.out.2.2.2.2.2.2.2.2.1 bn HF.out.2.2.2.2.2.2.2.2.2.1
                  with_reducible refine cB.mono ?_
                  rintro e V2 ⟨bA2, bc2, rfl, hb2⟩
                  have hB2 : Below W0.heap.size W0 V2 := step_below hB1 hb2
                  refine hK.out _ _ hB2 (fun _ => ?_)
                  clear hK K cB hb2
                  try simp only [Act.put, List.getElem_toArray, List.getElem_cons_zero, List.getElem_cons_succ, List.setIfInBounds_toArray, List.set_cons_zero, List.set_cons_succ]
                  refine takeG0 (i := 13) (v := .int .i64 (bn : Int)) rfl (by kernel_rfl) (by kernel_rfl) (by kernel_rfl) (by kernel_rfl) (fun _ _ _ h => h) (Or.inl ⟨by rfl, fun W hW => by go_simp⟩) hB2 ?_
                  simp only [Act.put, List.getElem_toArray, List.getElem_cons_zero, List.getElem_cons_succ, List.setIfInBounds_toArray, List.set_cons_zero, List.set_cons_succ]
                  refine takeG0 (i := 14) (v := .bool true) rfl (by kernel_rfl) (by kernel_rfl) (by kernel_rfl) (by kernel_rfl) (fun _ _ _ h => h) (Or.inl ⟨by rfl, fun W hW => by go_simp⟩) hB2 ?_
                  simp only [Act.put, List.getElem_toArray, List.getElem_cons_zero, List.getElem_cons_succ, List.setIfInBounds_toArray, List.set_cons_zero, List.set_cons_succ]
                  refine takeG0 (i := 15) (v := .bool true) rfl (by kernel_rfl) (by kernel_rfl) (by kernel_rfl) (by kernel_rfl) (fun _ _ _ h => h) (Or.inl ⟨by rfl, fun W hW => by go_simp⟩) hB2 ?_
                  simp only [Act.put, List.getElem_toArray, List.getElem_cons_zero, List.getElem_cons_succ, List.setIfInBounds_toArray, List.set_cons_zero, List.set_cons_succ]
                  refine lastG (by kernel_rfl) rfl (by kernel_rfl) (fun K hK => ?_)
                  go_simp
                  have HF10 := Lib.hid (step_belowN HF.out.2.2.2.2.2.2.2.2.2.2 hB2 HF.out.2.2.2.2.2.2.2.2.2.2.size)
                  refine hK.out _ _ ?_
                  clear hK K hB2 hB1
                  go_wp2
                  go_ret
                  exact ⟨rfl, HF10.out⟩
end Go.Proofs.YtjmnogpnjombgaaDoor
