/- The document's Even: the same even script, where nothing wraps. -/
import Derived.Test.YtiodfcemggfnfaaEvenUse
namespace Go.Proofs.Ytiodfcemggfnfaa
open Go.ChangeShapes Go.WideShapes Go.ChangeAt Go.RowKit Go.Deep
set_option linter.unusedVariables false
set_option linter.unusedSimpArgs false

theorem ints_info : (Try.prog.info? 3).map (fun i => (i.zero, i.size, i.bytes)) = some (some (.int .i64 0), 1, 8) := by kernel_rfl
/-- The q-th thing to be picked, and by when. -/
def itq (q : Nat) : Pk := (((q % 2 : Nat) : Int), ((q / 2 : Nat) : Int))
def duq (D : Du) (q : Nat) : Int := D (q % 2) (q / 2)
def itL (r : Nat) : List Pk := (List.range (2 * r)).map itq
def duL (w r : Nat) : List Int := (List.range (2 * r)).map (duq (du0 w))
theorem range2 {α : Type} (f : Nat → α) (r : Nat) : (List.range (2 * (r + 1))).map f = (List.range (2 * r)).map f ++ [f (2 * r), f (2 * r + 1)] := by
  rw [show 2 * (r + 1) = 2 * r + 1 + 1 by omega, List.range_succ, List.range_succ]
  simp
theorem itL_len (r : Nat) : (itL r).length = 2 * r := by simp [itL]
theorem duL_len (w r : Nat) : (duL w r).length = 2 * r := by simp [duL]
theorem itL_get (t i : Nat) (h : i < 2 * t) : (itL t).getD i (0, 0) = itq i := by
  simp [itL, List.getD_eq_getElem?_getD, h]
theorem duL_get (w t i : Nat) (h : i < 2 * t) : (duL w t).getD i 0 = duq (du0 w) i := by
  simp [duL, List.getD_eq_getElem?_getD, h]

/-- Between two rounds of the first loop. -/
structure RvA (t w : Nat) (W wr : World) (r : Nat) (vi vd : Value) : Prop where
  its : wr.ownsRow W.heap.size 23 2 vi (2 * r) ((itL r).flatMap pkc)
  dus : wr.ownsRow W.heap.size 3 1 vd (2 * r) ((duL w r).map (Value.int .i64))
  below : Below W.heap.size W wr
/-- By when each is due, in memory. -/
def DCells (cur : Array Value) (N : Nat) (f : Nat → Int) : Prop := ∀ q, q < N → cur[q]? = some (.int .i64 (f q))
theorem DCells.congr {cur : Array Value} {N : Nat} {f g : Nat → Int} (h : DCells cur N f) (e : ∀ q, q < N → f q = g q) : DCells cur N g := fun q hq => by rw [← e q hq]; exact h q hq
theorem DCells.set_ {cur : Array Value} {N : Nat} {f : Nat → Int} (h : DCells cur N f) (i : Nat) (hi : i < N) (v : Int) : DCells (cur.setIfInBounds i (.int .i64 v)) N (fun q => if q = i then v else f q) := fun q hq => by
  have hs := (Array.getElem?_eq_some_iff.1 (h i hi)).1
  dsimp only
  by_cases e : q = i
  · subst e
    rw [if_pos rfl, Array.getElem?_setIfInBounds_self_of_lt hs]
  · rw [if_neg e, Array.getElem?_setIfInBounds_ne (by omega)]
    exact h q hq
/-- Between two rounds of the second loop. -/
structure RvB (t w len : Nat) (P : Nat → Pk) (W1 wr : World) (gd : Nat) (L : List Pk) (D : Du) (kk nx : Nat) (v : Value) : Prop where
  row : wr.ownsRow W1.heap.size 23 2 v L.length (L.flatMap pkc)
  play : Play t w len P L D kk
  due : ∃ cur, Blk wr gd 3 cur ∧ DCells cur (2 * t) (duq D)
  next : (0 < len → nx = kk % len) ∧ (len = 0 → nx = 0)
  grow : W1.grownBy wr (some gd)
theorem upd_eq (D : Du) (x : Pk) (v : Int) (q : Nat) : duq (upd D x v) q = if itq q = x then v else duq D q := rfl
theorem first_of {t N f : Nat} {D : Du} (hN : N = 2 * t) (hf : f < N) (hm : ∀ j, j < N → duq D f ≤ duq D j) : First t D (f % 2) (f / 2) := by
  refine ⟨by omega, by omega, fun k' w' hk hw => ?_⟩
  have := hm (2 * w' + k') (by omega)
  unfold duq at this
  rw [show (2 * w' + k') % 2 = k' by omega, show (2 * w' + k') / 2 = w' by omega] at this
  exact this
theorem grown_row {w0 w w' : World} {base n : Nat} {e : TypeId} {size : Nat} {v : Value} {xs : List Value} {gd : Nat} (h : w0.grownBy w (some gd)) (ho : w.ownsRow base e size v n xs) (hg : w.grownBy w' v.ownBlock) (hb : w0.heap.size ≤ base) : w0.grownBy w' (some gd) :=
  grown_newer h hg (fun i hi => Nat.le_trans hb (own_ge ho i hi))

/-- What the document's Even answers. -/
def REnd (t w n len : Nat) (P : Nat → Pk) (W : World) (e : Ending) (w' : World) : Prop :=
  ∃ (v : Value) (L : List Pk) (D : Du) (kk : Nat), e = .returned v ∧ L.length = n ∧ w'.ownsRow W.heap.size 23 2 v L.length (L.flatMap pkc) ∧ Play t w len P L D kk ∧ Below W.heap.size W w'

set_option maxRecDepth 100000 in
set_option maxHeartbeats 16000000 in
theorem refEven_yes (A : Option Addr) (len cap : Nat) (P : Nat → Pk) (t w n : Nat) (hl : len ≤ 1000000) (ht1 : 1 ≤ t) (ht8 : t ≤ 8) (hw : 4 * t ≤ w) (hw2 : w ≤ 1099511627776) (hn : n ≤ 1000) (W : World) (hs : SlE W A len 2 (fun i => pkc (P i))) :
    Calls Try.prog 17 #[.slice A len cap, .int .i64 (t : Int), .int .i64 (w : Int), .int .i64 (n : Int)] W (REnd t w n len P W) := by
  have HSL := Lib.hid hs
  clear hs
  obtain ⟨i0, hi, hy0, hy1, hy2⟩ := info_parts pk_info
  obtain ⟨j0, hj, hj0, hj1, hj2⟩ := info_parts ints_info
  go_enter Try.func17, Try.ntmps17
  go_wp2
  go_loopw [9, 10, 11] (fun vi vd v wr => ∃ r : Nat, r ≤ t ∧ v = .int .i64 (r : Int) ∧ RvA t w W wr r vi vd) (fun _ _ v _ => t - (intOf v).toNat)
  case atStart => exact ⟨0, Nat.zero_le _, rfl, ⟨World.ownsRow_nil _ _ _ _, World.ownsRow_nil _ _ _ _, Below.refl _ _⟩⟩
  case round =>
    obtain ⟨r, hr, rfl, hE⟩ := hrel
    by_cases hlt : r < t
    · obtain ⟨hi1, hd1, hB⟩ := hE
      have hlt' : (r : Int) < (t : Int) := by omega
      have hr0 : (0 : Int) ≤ (r : Int) := by omega
      have hb1 : 2 * (r : Int) ≤ 16 := by omega
      have hb2 : (0 : Int) ≤ 2 * (r : Int) := by omega
      have hb3 : (0 : Int) ≤ (w : Int) - 2 * (r : Int) := by omega
      have hb4 : (0 : Int) ≤ (w : Int) - 2 * (r : Int) - 1 := by omega
      have hb5 : (w : Int) - 2 * (r : Int) ≤ 1099511627776 := by omega
      obtain ⟨N, hN⟩ : ∃ N, 2 * r = N := ⟨_, rfl⟩
      rw [hN] at hi1 hd1
      have hN16 : N ≤ 16 := by omega
      have HN := Lib.hid hN
      clear hN
      obtain ⟨iA, ic, rfl, _, _⟩ := own_sl hi1
      obtain ⟨dA, dc, rfl, _, _⟩ := own_sl hd1
      have hi2 := hi1.alloc (.cells #[.int .i64 0, .int .i64 (r : Int), .int .i64 1, .int .i64 (r : Int)] 23)
      have hd2 := hd1.alloc (.cells #[.int .i64 0, .int .i64 (r : Int), .int .i64 1, .int .i64 (r : Int)] 23)
      have src := sl_new wr 23 [.int .i64 0, .int .i64 (r : Int), .int .i64 1, .int .i64 (r : Int)]
      have hB2 := hB.alloc hB.size (.cells #[.int .i64 0, .int .i64 (r : Int), .int .i64 1, .int .i64 (r : Int)] 23)
      have hsz := hB.size
      clear hi1 hd1 hB
      go_wp2_with (first
        | (at_builtin; refine wpList_append_sl _ rfl (.tmp 24) (.tmp 29) 30 rfl W.heap.size 23 i0 _ 2 16 Try.underlying30 hi hy0 hy1 hy2 rfl (by omega) _ N _ rfl hi2 _ 2 _ (fun i => [Value.int .i64 0, .int .i64 (r : Int), .int .i64 1, .int .i64 (r : Int)].getD i undef) rfl src (fun i hi => by rcases (by omega : i = 0 ∨ i = 1 ∨ i = 2 ∨ i = 3) with rfl | rfl | rfl | rfl <;> rfl) (by unfold maxLen; omega) (by omega) (by simp; omega) ?_; intro vi3 w3 hi3 hg3 _; go_must (have hd3 := own_apart hd2 hi2 (by decide) hg3; have hB3 := below_own hB2 hi2 hg3 (Nat.le_refl _) (Nat.le_refl _); have hi4 := hi3.alloc (.cells #[.int .i64 ((w : Int) - 2 * (r : Int)), .int .i64 ((w : Int) - 2 * (r : Int) - 1)] 3); have hd4 := hd3.alloc (.cells #[.int .i64 ((w : Int) - 2 * (r : Int)), .int .i64 ((w : Int) - 2 * (r : Int) - 1)] 3); have src4 := sl_new w3 3 [.int .i64 ((w : Int) - 2 * (r : Int)), .int .i64 ((w : Int) - 2 * (r : Int) - 1)]; have hB4 := hB3.alloc hB3.size (.cells #[.int .i64 ((w : Int) - 2 * (r : Int)), .int .i64 ((w : Int) - 2 * (r : Int) - 1)] 3); have hsz3 := hB3.size; clear hi2 src))
        | (at_builtin; go_must (refine wpList_append_sl _ rfl (.tmp 31) (.tmp 41) 53 rfl W.heap.size 3 j0 _ 1 8 Try.underlying53 hj hj0 hj1 hj2 rfl (by omega) _ N _ rfl hd4 _ 2 _ (fun i => [Value.int .i64 ((w : Int) - 2 * (r : Int)), .int .i64 ((w : Int) - 2 * (r : Int) - 1)].getD i undef) rfl src4 (fun i hi => by rcases (by omega : i = 0 ∨ i = 1) with rfl | rfl <;> rfl) (by unfold maxLen; omega) (by omega) (by simp; omega) ?_; intro vd5 w5 hd5 hg5 _)))
      have hi5 := own_apart hi4 hd4 (by decide) hg5
      have hB5 := below_own hB4 hd4 hg5 (Nat.le_refl _) (Nat.le_refl _)
      have hE5 : RvA t w W w5 (r + 1) vi3 vd5 := by
        refine ⟨?_, ?_, hB5⟩
        · rw [show (itL (r + 1)).flatMap pkc = (itL r).flatMap pkc ++ [.int .i64 0, .int .i64 (r : Int), .int .i64 1, .int .i64 (r : Int)] from by
            unfold itL
            rw [range2, List.flatMap_append]
            congr 1
            simp [itq, pkc]
            omega]
          rw [show 2 * (r + 1) = N + 2 by have := HN.out; omega]
          exact hi5
        · rw [show (duL w (r + 1)).map (Value.int .i64) = (duL w r).map (Value.int .i64) ++ [.int .i64 ((w : Int) - 2 * (r : Int)), .int .i64 ((w : Int) - 2 * (r : Int) - 1)] from by
            unfold duL
            rw [range2, List.map_append]
            congr 1
            simp [duq, du0]
            omega]
          rw [show 2 * (r + 1) = N + 2 by have := HN.out; omega]
          exact hd5
      have HE := Lib.hid hE5
      clear hE5 hi5 hB5 hd5 hg5 hi4 hd4 src4 hB4 hi3 hd3 hg3 hB3 hd2 hB2
      go_roundw
      case measure => simp [intOf]; omega
      case rel => exact ⟨r + 1, by omega, by go_num, HE.out⟩
    · obtain rfl : r = t := by omega
      have hlt' : ¬ (r : Int) < (r : Int) := by omega
      obtain ⟨hi1, hd1, hB1⟩ := hE
      obtain ⟨N, hN⟩ : ∃ N, 2 * r = N := ⟨_, rfl⟩
      obtain ⟨iA, ic, rfl, _, hit⟩ := own_picks hi1 (itL_len r)
      have hdu := hd1
      rw [hN] at hit hdu ⊢
      have hNp : 0 < N := by omega
      have hN16 : N ≤ 16 := by omega
      have HN := Lib.hid hN
      clear hN
      rcases hdu.2 with ⟨_, h0⟩ | ⟨gd, dc, cur0, rfl, hgd, hblk0, hnd, _, hcs0, htk⟩
      · omega
      have hd0 : DCells cur0 N (duq (du0 w)) := fun q hq => by
        have h1 : (cur0.toList.take (N * 1))[q]? = ((duL w r).map (Value.int .i64))[q]? := by rw [htk]
        rw [Nat.mul_one, List.getElem?_take_of_lt hq, List.getElem?_map] at h1
        have h2 : (duL w r)[q]? = some (duq (du0 w) q) := by
          unfold duL
          rw [List.getElem?_map, List.getElem?_range (by have := HN.out; omega)]
          rfl
        rw [h2] at h1
        simpa using h1
      have hgl : gd < wr.heap.size := Blk.lt (w := wr) (t := 3) (cs := cur0) hblk0
      obtain ⟨bi, oi, rfl, hbi, hci⟩ := hit hNp
      have hbd : bi ≠ gd := by
        obtain ⟨c, hc⟩ := own_block hi1 bi rfl
        exact blk_ne hc (show Blk wr gd 3 cur0 from hblk0) (by decide)
      obtain ⟨wo, rfl⟩ : ∃ wo : World, wo = wr := ⟨_, rfl⟩
      have HIT := Lib.hid hci
      have H0 := Lib.hid (And.intro hblk0 (And.intro hd0 (And.intro hB1 hgd)))
      clear hdu hi1 hd1 hit hci hblk0 hd0 htk hcs0 hnd hB1 hgd
      go_wp2
      go_loopw [12, 13, 14] (fun v nv iv wr => ∃ (L : List Pk) (D : Du) (kk nx m : Nat), m ≤ n ∧ L.length = m ∧ iv = .int .i64 (m : Int) ∧ nv = .int .i64 (nx : Int) ∧ RvB r w len P wo wr gd L D kk nx v) (fun _ _ iv _ => n - (intOf iv).toNat)
      case atStart => exact ⟨[], du0 w, 0, 0, 0, Nat.zero_le _, rfl, rfl, rfl, ⟨World.ownsRow_nil _ _ _ _, .nil, ⟨cur0, H0.out.1, by rw [HN.out]; exact H0.out.2.1⟩, ⟨fun _ => by rw [Nat.zero_mod], fun _ => rfl⟩, World.grownBy.refl wo _⟩⟩
      case round =>
        obtain ⟨L, D, kk, nx, m, hm, hLm, rfl, rfl, hE⟩ := hrel
        obtain ⟨w1, rfl⟩ : ∃ w1 : World, w1 = wr := ⟨_, rfl⟩
        obtain ⟨hrow, hplay, ⟨cur, hblk, hdc⟩, hnx, hgr⟩ := hE
        rw [HN.out] at hdc
        rw [hLm] at hrow
        have hkl := hplay.len
        have hkm : kk ≤ m := by omega
        obtain ⟨vA, vc, rfl, hmc, _⟩ := own_sl hrow
        by_cases hlt2 : m < n
        · have hlt2' : (m : Int) < (n : Int) := by omega
          have hm0 : (0 : Int) ≤ (m : Int) := by omega
          have hbw : bi < w1.heap.size := Nat.lt_of_lt_of_le hbi hgr.size
          have hI1 : ∀ q, q < N → ∀ j u, (pkc (itq q))[j]? = some u → w1.cell? ⟨bi, oi + q * 2 + j, none⟩ = some u := fun q hq j u hu => by
            rw [World.cell?_of_block (w := wo) (a := ⟨bi, oi + q * 2 + j, none⟩) (hgr.block bi hbi (fun e => hbd (Option.some.inj e)))]
            exact HIT.out q hq j u (by rw [itL_get _ _ (by have := HN.out; omega)]; exact hu)
          have HX := Lib.hid (And.intro hrow (And.intro hplay (And.intro hblk (And.intro hdc (And.intro hnx (And.intro hgr (And.intro hLm hI1)))))))
          clear hrow hplay hblk hdc hnx hgr hLm hI1 hkl
          go_wp2
          go_loopw [15, 16] (fun fv kv wr => ∃ k f q : Nat, k ≤ N ∧ f < N ∧ kv = .int .i64 (k : Int) ∧ fv = .int .i64 (f : Int) ∧ wr = w1.drewN q ∧ ∀ j, j < k → duq D f ≤ duq D j) (fun _ kv _ => N - (intOf kv).toNat)
          case atStart => exact ⟨0, 0, 0, Nat.zero_le _, hNp, rfl, rfl, rfl, fun j hj => absurd hj (by omega)⟩
          case round =>
            obtain ⟨k, f, q, hk, hf, rfl, rfl, rfl, hmin⟩ := hrel
            have hf' : (f : Int) < (N : Int) := by omega
            have hf0 : (0 : Int) ≤ (f : Int) := by omega
            have HM := Lib.hid hmin
            clear hmin
            by_cases hlt3 : k < N
            · have hlt3' : (k : Int) < (N : Int) := by omega
              have hk0 : (0 : Int) ≤ (k : Int) := by omega
              have ck := (HX.out.2.2.1.cell k).trans (HX.out.2.2.2.1 k hlt3)
              have cf := (HX.out.2.2.1.cell f).trans (HX.out.2.2.2.1 f hf)
              obtain ⟨xk, hxk⟩ : ∃ x, duq D k = x := ⟨_, rfl⟩
              obtain ⟨xf, hxf⟩ : ∃ x, duq D f = x := ⟨_, rfl⟩
              rw [hxk] at ck
              rw [hxf] at cf
              have HC := Lib.hid (And.intro hxk hxf)
              clear hxk hxf
              by_cases hless : xk < xf
              · have HL := Lib.hid hless
                go_wp2
                go_quiet (fail)
                go_wp2
                go_roundw
                case rel =>
                  refine ⟨k + 1, k, _, by omega, hlt3, by go_num, rfl, rfl, fun j hj => ?_⟩
                  rcases (by omega : j < k ∨ j = k) with h | rfl
                  · have h1 := HM.out j h
                    have h2 := HC.out.1
                    have h3 := HC.out.2
                    have h4 := HL.out
                    omega
                  · exact Int.le_refl _
                case measure => simp [intOf]; omega
              · have HL := Lib.hid hless
                go_wp2
                go_quiet (fail)
                go_wp2
                go_roundw
                case rel =>
                  refine ⟨k + 1, f, _, by omega, hf, by go_num, rfl, rfl, fun j hj => ?_⟩
                  rcases (by omega : j < k ∨ j = k) with h | rfl
                  · exact HM.out j h
                  · have h2 := HC.out.1
                    have h3 := HC.out.2
                    have h4 := HL.out
                    omega
                case measure => simp [intOf]; omega
            · obtain rfl : N = k := by omega
              have hlt3' : ¬ (N : Int) < (N : Int) := by omega
              have hfirst := first_of (t := r) HN.out.symm hf HM.out
              have cf := (HX.out.2.2.1.cell f).trans (HX.out.2.2.2.1 f hf)
              have p0 := HX.out.2.2.2.2.2.2.2 f hf 0 _ rfl
              have p1 := HX.out.2.2.2.2.2.2.2 f hf 1 _ rfl
              rw [Nat.add_zero] at p0
              obtain ⟨dr, hdr⟩ : ∃ x, duq D f = x := ⟨_, rfl⟩
              rw [hdr] at cf
              have hbnd := HX.out.2.1.bound ht8 hw hw2 (by rw [HX.out.2.2.2.2.2.2.1]; omega) (f % 2) (f / 2) hfirst.1 hfirst.2.1
              have hdr1 : -100 ≤ dr ∧ dr ≤ (m : Int) + (w : Int) := by
                have h7 := HX.out.2.2.2.2.2.2.1
                have : D (f % 2) (f / 2) = dr := hdr
                rw [this, h7] at hbnd
                exact hbnd
              obtain ⟨x1, hx1⟩ : ∃ x1 : Int, (itq f).1 = x1 := ⟨_, rfl⟩
              obtain ⟨x2, hx2⟩ : ∃ x2 : Int, (itq f).2 = x2 := ⟨_, rfl⟩
              rw [hx1] at p0
              rw [hx2] at p1
              have HF := Lib.hid (And.intro hfirst (And.intro hdr (And.intro hx1 hx2)))
              have hb1 : 2 * (r : Int) ≤ 16 := by omega
              have hb2 : (0 : Int) ≤ 2 * (r : Int) := by omega
              clear hfirst hdr hbnd hx1 hx2
              have cf2 : (w1.drewN q).cell? ⟨gd, f, none⟩ = some (.int .i64 dr) := cf
              have p02 : (w1.drewN q).cell? ⟨bi, oi + f * 2, none⟩ = some (.int .i64 x1) := p0
              have p12 : (w1.drewN q).cell? ⟨bi, oi + f * 2 + 1, none⟩ = some (.int .i64 x2) := p1
              have HY : Hid ((w1.drewN q).ownsRow wo.heap.size 23 2 (.slice vA m vc) m (L.flatMap pkc) ∧ Blk (w1.drewN q) gd 3 cur ∧ wo.grownBy (w1.drewN q) (some gd)) := Lib.hid ⟨own_drewN HX.out.1 q, HX.out.2.2.1.drewN q, grown_drewN HX.out.2.2.2.2.2.1 q⟩
              have HX2 := Lib.hid (And.intro HX.out.2.1 (And.intro HX.out.2.2.2.1 (And.intro HX.out.2.2.2.2.1 HX.out.2.2.2.2.2.2.1)))
              clear cf p0 p1 HX HM hbw
              generalize w1.drewN q = w2 at cf2 p02 p12 HY ⊢
              have hgd2 : gd < w2.heap.size := HY.out.2.1.lt
              have hbi2 : bi < w2.heap.size := Nat.lt_of_lt_of_le hbi HY.out.2.2.size
              have hwr : wrap64 (dr - (m : Int)) = dr - (m : Int) := by unfold wrap64; omega
              have HWR := Lib.hid hwr
              clear hwr
              by_cases hdue : (m : Int) + 2 * (r : Int) < dr
              · rcases Nat.eq_zero_or_pos len with h0 | hlp
                · have hl0 : ¬ (0 : Int) < (len : Int) := by omega
                  have hpl := Play.own HX2.out.1 _ _ HF.out.1 (.inr h0)
                  rw [show (((f % 2 : Nat) : Int), ((f / 2 : Nat) : Int)) = (x1, x2) from by rw [← HF.out.2.2.1, ← HF.out.2.2.2]; rfl, HX2.out.2.2.2] at hpl
                  have hnx2 : (0 < len → nx = kk % len) ∧ (len = 0 → nx = 0) := HX2.out.2.2.1
                  have HPL := Lib.hid (And.intro hpl hnx2)
                  clear hpl hnx2 h0
                  have hown := HY.out.1
                  have own1 := hown.alloc (.cells #[.int .i64 x1, .int .i64 x2] 23)
                  have bX1 := Blk.new w2 23 #[.int .i64 x1, .int .i64 x2]
                  have own2 := own1.alloc (.cells #[.int .i64 x1, .int .i64 x2] 23)
                  have bX2 := bX1.alloc (.cells #[.int .i64 x1, .int .i64 x2] 23)
                  have src := sl_new (w2.alloc (.cells #[.int .i64 x1, .int .i64 x2] 23)) 23 [.int .i64 x1, .int .i64 x2]
                  rw [World.size_alloc] at src
                  have hsz2 := HY.out.2.2.size
                  have hnx : some w2.heap.size ≠ (Value.slice vA m vc).ownBlock := fun e => by
                    obtain ⟨c, hc⟩ := own_block hown w2.heap.size e.symm
                    exact absurd hc.lt (Nat.lt_irrefl _)
                  clear own1 bX1 hown
                  go_wp2_with (at_builtin; go_must (refine wpList_append_sl _ rfl (.tmp 91) (.tmp 93) 30 rfl wo.heap.size 23 i0 _ 2 16 Try.underlying30 hi hy0 hy1 hy2 rfl (by omega) _ m _ rfl own2 _ 1 _ (fun i => [Value.int .i64 x1, .int .i64 x2].getD i undef) rfl src (fun i hi => by rcases (by omega : i = 0 ∨ i = 1) with rfl | rfl <;> rfl) (by unfold maxLen; omega) (by omega) (by simp; omega) ?_; intro v3 w3 own3 hg3 hv3; clear src))
                  rw [show (List.range (1 * 2)).map (fun i => [Value.int .i64 x1, .int .i64 x2].getD i undef) = [Value.int .i64 x1, .int .i64 x2] from rfl] at own3
                  obtain ⟨A3, cap3, rfl, _, _⟩ := own_sl own3
                  have bX3 := bX2.grown hg3 hnx
                  have bD3 : Blk w3 gd 3 cur := ((HY.out.2.1.alloc _).alloc _).grow_own own2 hg3 hgl
                  have hgr3 : wo.grownBy w3 (some gd) := grown_row (grown_alloc (grown_alloc HY.out.2.2 _) _) own2 hg3 (Nat.le_refl _)
                  have hxg : w2.heap.size ≠ gd := by omega
                  have hxl := bX3.lt
                  have H3 := Lib.hid (And.intro own3 (And.intro bX3 (And.intro bD3 hgr3)))
                  clear cf2 p02 p12 own2 bX2 hnx hg3 hv3 own3 bX3 bD3 hgr3
                  go_loopw [18] (fun kv wr => ∃ (k : Nat) (ck : Array Value), k ≤ N ∧ kv = .int .i64 (k : Int) ∧ Blk wr gd 3 ck ∧ DCells ck N (fun q => if q < k then duq (upd D (x1, x2) (ndue m w)) q else duq D q) ∧ w3.grownBy wr (some gd)) (fun kv _ => N - (intOf kv).toNat)
                  case atStart => exact ⟨0, cur, Nat.zero_le _, rfl, H3.out.2.2.1, HX2.out.2.1.congr (fun q _ => by rw [if_neg (by omega)]), World.grownBy.refl w3 _⟩
                  case round =>
                    obtain ⟨k, ck, hk, rfl, hbk, hdk, hgk⟩ := hrel
                    obtain ⟨w4, rfl⟩ : ∃ w4 : World, w4 = wr := ⟨_, rfl⟩
                    by_cases hlt3 : k < N
                    · have hlt3' : (k : Int) < (N : Int) := by omega
                      have hk0 : (0 : Int) ≤ (k : Int) := by omega
                      have hw0 : (0 : Int) ≤ (w : Int) := by omega
                      have hmw : (m : Int) + 1 ≤ 2000 := by omega
                      have hgr4 := grown_trans' H3.out.2.2.2 hgk
                      have y : ∀ j u, (pkc (itq k))[j]? = some u → w4.cell? ⟨bi, oi + k * 2 + j, none⟩ = some u := fun j u hu => by
                        rw [World.cell?_of_block (w := wo) (a := ⟨bi, oi + k * 2 + j, none⟩) (hgr4.block bi hbi (fun e => hbd (Option.some.inj e)))]
                        exact HIT.out k hlt3 j u (by rw [itL_get _ _ (by have := HN.out; omega)]; exact hu)
                      have y0 := y 0 _ rfl
                      have y1 := y 1 _ rfl
                      rw [Nat.add_zero] at y0
                      have bX4 := H3.out.2.1.grown hgk (fun e => hxg (Option.some.inj e))
                      have z0' := bX4.cell 0
                      have z1' := bX4.cell 1
                      simp only [List.getElem?_toArray, List.getElem?_cons_zero, List.getElem?_cons_succ] at z0' z1'
                      have ck0 := (hbk.cell k).trans (hdk k hlt3)
                      have fk := hbk.frozen k
                      obtain ⟨dk, hdk2⟩ : ∃ d, (if k < k then duq (upd D (x1, x2) (ndue m w)) k else duq D k) = d := ⟨_, rfl⟩
                      dsimp only at ck0
                      rw [hdk2] at ck0
                      obtain ⟨ia, hia⟩ : ∃ a, (itq k).1 = a := ⟨_, rfl⟩
                      obtain ⟨ib, hib⟩ : ∃ a, (itq k).2 = a := ⟨_, rfl⟩
                      rw [hia] at y0
                      rw [hib] at y1
                      have HK := Lib.hid (And.intro hbk (And.intro hdk (And.intro hgk (And.intro hia hib))))
                      clear hbk hdk hgk hia hib hgr4 y bX4 hdk2
                      have hstep : ∀ q, q < N → q ≠ k → (if q < k then duq (upd D (x1, x2) (ndue m w)) q else duq D q) = (if q < k + 1 then duq (upd D (x1, x2) (ndue m w)) q else duq D q) := fun q _ hq => by
                        by_cases h : q < k
                        · rw [if_pos h, if_pos (by omega)]
                        · rw [if_neg h, if_neg (by omega)]
                      have HST := Lib.hid hstep
                      clear hstep
                      by_cases hx : ia = x1 ∧ ib = x2
                      · obtain ⟨rfl, rfl⟩ := hx
                        have hnd : ndue m w = (m : Int) + 1 + (w : Int) := by unfold ndue wrap64; omega
                        have HND := Lib.hid hnd
                        clear hnd
                        go_wp2
                        go_quiet (fail)
                        go_wp2
                        go_roundw
                        case rel =>
                          refine ⟨k + 1, _, by omega, by go_num, ?_, (HK.out.2.1.set_ k hlt3 ((m : Int) + 1 + (w : Int))).congr (fun q hq => ?_), ?_⟩
                          · first
                              | exact (HK.out.1.set_ k _).drewN _
                              | exact (HK.out.1.drewN _).set_ k _
                          · by_cases e : q = k
                            · subst e
                              rw [if_pos rfl, if_pos (by omega), upd_eq, if_pos (by rw [← HK.out.2.2.2.1, ← HK.out.2.2.2.2]), HND.out]
                            · rw [if_neg e]
                              exact HST.out q hq e
                          · first
                              | exact grown_drewN (grown_set HK.out.2.2.1 _ _) _
                              | exact grown_set (grown_drewN HK.out.2.2.1 _) _ _
                        case measure => simp [intOf]; omega
                      · have HH := Lib.hid hx
                        by_cases ha : ia = x1
                        · have hb : (ib == x2) = false := by
                            rw [beq_eq_false_iff_ne]
                            exact fun e => hx ⟨ha, e⟩
                          have ha' : (ia == x1) = true := by simpa using ha
                          clear hx ha
                          go_wp2
                          go_quiet (fail)
                          go_wp2
                          go_roundw
                          case rel =>
                            refine ⟨k + 1, ck, by omega, by go_num, HK.out.1.drewN _, HK.out.2.1.congr (fun q hq => ?_), grown_drewN HK.out.2.2.1 _⟩
                            by_cases e : q = k
                            · subst e
                              rw [if_neg (by omega), if_pos (by omega), upd_eq, if_neg (fun e => HH.out ⟨by rw [← HK.out.2.2.2.1, e], by rw [← HK.out.2.2.2.2, e]⟩)]
                            · exact HST.out q hq e
                          case measure => simp [intOf]; omega
                        · have ha' : (ia == x1) = false := by simpa using ha
                          clear hx ha
                          go_wp2
                          go_quiet (fail)
                          go_wp2
                          go_roundw
                          case rel =>
                            refine ⟨k + 1, ck, by omega, by go_num, HK.out.1.drewN _, HK.out.2.1.congr (fun q hq => ?_), grown_drewN HK.out.2.2.1 _⟩
                            by_cases e : q = k
                            · subst e
                              rw [if_neg (by omega), if_pos (by omega), upd_eq, if_neg (fun e => HH.out ⟨by rw [← HK.out.2.2.2.1, e], by rw [← HK.out.2.2.2.2, e]⟩)]
                            · exact HST.out q hq e
                          case measure => simp [intOf]; omega
                    · obtain rfl : N = k := by omega
                      have hlt3' : ¬ (N : Int) < (N : Int) := by omega
                      have hgr4 := grown_trans' H3.out.2.2.2 hgk
                      have own4 : w4.ownsRow wo.heap.size 23 2 (.slice A3 (m + 1) cap3) (m + 1) (L.flatMap pkc ++ [.int .i64 x1, .int .i64 x2]) := own_grown H3.out.1 hgk hgl
                      have hE5 : RvB r w len P wo w4 gd (L ++ [(x1, x2)]) (upd D (x1, x2) (ndue m w)) kk nx (.slice A3 (m + 1) cap3) := ⟨by rw [List.length_append, HX2.out.2.2.2, List.flatMap_append]; simpa [pkc] using own4, HPL.out.1, ⟨ck, hbk, by rw [HN.out]; exact hdk.congr (fun q hq => by rw [if_pos hq])⟩, HPL.out.2, hgr4⟩
                      have HE5 := Lib.hid (And.intro HX2.out.2.2.2 hE5)
                      clear hE5 own4 hgr4 hbk hdk hgk HX2 HPL H3 HY
                      go_wp2
                      go_roundw
                      case rel => exact ⟨L ++ [(x1, x2)], _, kk, nx, m + 1, by omega, by rw [List.length_append, HE5.out.1]; rfl, by go_num, by first | rfl | go_num, HE5.out.2⟩
                      case measure => simp [intOf]; omega
                · have hlp' : (0 : Int) < (len : Int) := by omega
                  have hnxe : nx = kk % len := HX2.out.2.2.1.1 hlp
                  have hnl : nx < len := by rw [hnxe]; exact Nat.mod_lt _ hlp
                  obtain ⟨nx2, hnx2⟩ : ∃ q, (nx + 1) % len = q := ⟨_, rfl⟩
                  have hnx3 : ((nx : Int) + 1) % (len : Int) = (nx2 : Int) := by
                    rw [← hnx2]
                    simp
                  have hnl' : (nx : Int) < (len : Int) := by omega
                  have hnx0 : (0 : Int) ≤ (nx : Int) := by omega
                  obtain ⟨ba, oa, rfl, hba, hca⟩ := HSL.out hlp
                  have hB4 : Below W.heap.size W w2 := H0.out.2.2.1.grown HY.out.2.2 H0.out.2.2.1.size (fun k e => by have := Option.some.inj e; have := H0.out.2.2.2; omega)
                  have z0 := keepAt hB4 hba (hca nx hnl 0 _ rfl)
                  have z1 := keepAt hB4 hba (hca nx hnl 1 _ rfl)
                  rw [Nat.add_zero] at z0
                  obtain ⟨x3, hx3⟩ : ∃ x3 : Int, (P nx).1 = x3 := ⟨_, rfl⟩
                  obtain ⟨x4, hx4⟩ : ∃ x4 : Int, (P nx).2 = x4 := ⟨_, rfl⟩
                  rw [hx3] at z0
                  rw [hx4] at z1
                  have hpl := Play.wish HX2.out.1 _ _ HF.out.1 (by rw [HX2.out.2.2.2, show D (f % 2) (f / 2) = dr from HF.out.2.1, HWR.out]; omega) hlp
                  rw [← hnxe, show P nx = (x3, x4) from by rw [← hx3, ← hx4], HX2.out.2.2.2] at hpl
                  have hnx4 : (0 < len → nx2 = (kk + 1) % len) ∧ (len = 0 → nx2 = 0) := ⟨fun _ => by rw [← hnx2, hnxe, Nat.mod_add_mod], fun h => by omega⟩
                  have HPL := Lib.hid (And.intro hpl hnx4)
                  have hbaw : ba < w2.heap.size := Nat.lt_of_lt_of_le hba hB4.size
                  clear hpl hnx4 hx3 hx4 hca hB4 hnxe hnx2 HF
                  obtain ⟨x1', rfl⟩ : ∃ y, y = x1 := ⟨_, rfl⟩
                  obtain ⟨x2', rfl⟩ : ∃ y, y = x2 := ⟨_, rfl⟩
                  have hown := HY.out.1
                  have own1 := hown.alloc (.cells #[.int .i64 x3, .int .i64 x4] 23)
                  have bX1 := Blk.new w2 23 #[.int .i64 x3, .int .i64 x4]
                  have own2 := own1.alloc (.cells #[.int .i64 x3, .int .i64 x4] 23)
                  have bX2 := bX1.alloc (.cells #[.int .i64 x3, .int .i64 x4] 23)
                  have src := sl_new (w2.alloc (.cells #[.int .i64 x3, .int .i64 x4] 23)) 23 [.int .i64 x3, .int .i64 x4]
                  rw [World.size_alloc] at src
                  have hsz2 := HY.out.2.2.size
                  have hnx : some w2.heap.size ≠ (Value.slice vA m vc).ownBlock := fun e => by
                    obtain ⟨c, hc⟩ := own_block hown w2.heap.size e.symm
                    exact absurd hc.lt (Nat.lt_irrefl _)
                  clear own1 bX1 hown
                  go_wp2_with (at_builtin; go_must (refine wpList_append_sl _ rfl (.tmp 91) (.tmp 93) 30 rfl wo.heap.size 23 i0 _ 2 16 Try.underlying30 hi hy0 hy1 hy2 rfl (by omega) _ m _ rfl own2 _ 1 _ (fun i => [Value.int .i64 x3, .int .i64 x4].getD i undef) rfl src (fun i hi => by rcases (by omega : i = 0 ∨ i = 1) with rfl | rfl <;> rfl) (by unfold maxLen; omega) (by omega) (by simp; omega) ?_; intro v3 w3 own3 hg3 hv3; clear src))
                  rw [show (List.range (1 * 2)).map (fun i => [Value.int .i64 x3, .int .i64 x4].getD i undef) = [Value.int .i64 x3, .int .i64 x4] from rfl] at own3
                  obtain ⟨A3, cap3, rfl, _, _⟩ := own_sl own3
                  have bX3 := bX2.grown hg3 hnx
                  have bD3 : Blk w3 gd 3 cur := ((HY.out.2.1.alloc _).alloc _).grow_own own2 hg3 hgl
                  have hgr3 : wo.grownBy w3 (some gd) := grown_row (grown_alloc (grown_alloc HY.out.2.2 _) _) own2 hg3 (Nat.le_refl _)
                  have hxg : w2.heap.size ≠ gd := by omega
                  have hxl := bX3.lt
                  have H3 := Lib.hid (And.intro own3 (And.intro bX3 (And.intro bD3 hgr3)))
                  clear cf2 p02 p12 own2 bX2 hnx hg3 hv3 own3 bX3 bD3 hgr3
                  go_loopw [18] (fun kv wr => ∃ (k : Nat) (ck : Array Value), k ≤ N ∧ kv = .int .i64 (k : Int) ∧ Blk wr gd 3 ck ∧ DCells ck N (fun q => if q < k then duq (upd D (x3, x4) (ndue m w)) q else duq D q) ∧ w3.grownBy wr (some gd)) (fun kv _ => N - (intOf kv).toNat)
                  case atStart => exact ⟨0, cur, Nat.zero_le _, rfl, H3.out.2.2.1, HX2.out.2.1.congr (fun q _ => by rw [if_neg (by omega)]), World.grownBy.refl w3 _⟩
                  case round =>
                    obtain ⟨k, ck, hk, rfl, hbk, hdk, hgk⟩ := hrel
                    obtain ⟨w4, rfl⟩ : ∃ w4 : World, w4 = wr := ⟨_, rfl⟩
                    by_cases hlt3 : k < N
                    · have hlt3' : (k : Int) < (N : Int) := by omega
                      have hk0 : (0 : Int) ≤ (k : Int) := by omega
                      have hw0 : (0 : Int) ≤ (w : Int) := by omega
                      have hmw : (m : Int) + 1 ≤ 2000 := by omega
                      have hgr4 := grown_trans' H3.out.2.2.2 hgk
                      have y : ∀ j u, (pkc (itq k))[j]? = some u → w4.cell? ⟨bi, oi + k * 2 + j, none⟩ = some u := fun j u hu => by
                        rw [World.cell?_of_block (w := wo) (a := ⟨bi, oi + k * 2 + j, none⟩) (hgr4.block bi hbi (fun e => hbd (Option.some.inj e)))]
                        exact HIT.out k hlt3 j u (by rw [itL_get _ _ (by have := HN.out; omega)]; exact hu)
                      have y0 := y 0 _ rfl
                      have y1 := y 1 _ rfl
                      rw [Nat.add_zero] at y0
                      have bX4 := H3.out.2.1.grown hgk (fun e => hxg (Option.some.inj e))
                      have z0' := bX4.cell 0
                      have z1' := bX4.cell 1
                      simp only [List.getElem?_toArray, List.getElem?_cons_zero, List.getElem?_cons_succ] at z0' z1'
                      have ck0 := (hbk.cell k).trans (hdk k hlt3)
                      have fk := hbk.frozen k
                      obtain ⟨dk, hdk2⟩ : ∃ d, (if k < k then duq (upd D (x3, x4) (ndue m w)) k else duq D k) = d := ⟨_, rfl⟩
                      dsimp only at ck0
                      rw [hdk2] at ck0
                      obtain ⟨ia, hia⟩ : ∃ a, (itq k).1 = a := ⟨_, rfl⟩
                      obtain ⟨ib, hib⟩ : ∃ a, (itq k).2 = a := ⟨_, rfl⟩
                      rw [hia] at y0
                      rw [hib] at y1
                      have HK := Lib.hid (And.intro hbk (And.intro hdk (And.intro hgk (And.intro hia hib))))
                      clear hbk hdk hgk hia hib hgr4 y bX4 hdk2
                      have hstep : ∀ q, q < N → q ≠ k → (if q < k then duq (upd D (x3, x4) (ndue m w)) q else duq D q) = (if q < k + 1 then duq (upd D (x3, x4) (ndue m w)) q else duq D q) := fun q _ hq => by
                        by_cases h : q < k
                        · rw [if_pos h, if_pos (by omega)]
                        · rw [if_neg h, if_neg (by omega)]
                      have HST := Lib.hid hstep
                      clear hstep
                      by_cases hx : ia = x3 ∧ ib = x4
                      · obtain ⟨rfl, rfl⟩ := hx
                        have hnd : ndue m w = (m : Int) + 1 + (w : Int) := by unfold ndue wrap64; omega
                        have HND := Lib.hid hnd
                        clear hnd
                        go_wp2
                        go_quiet (fail)
                        go_wp2
                        go_roundw
                        case rel =>
                          refine ⟨k + 1, _, by omega, by go_num, ?_, (HK.out.2.1.set_ k hlt3 ((m : Int) + 1 + (w : Int))).congr (fun q hq => ?_), ?_⟩
                          · first
                              | exact (HK.out.1.set_ k _).drewN _
                              | exact (HK.out.1.drewN _).set_ k _
                          · by_cases e : q = k
                            · subst e
                              rw [if_pos rfl, if_pos (by omega), upd_eq, if_pos (by rw [← HK.out.2.2.2.1, ← HK.out.2.2.2.2]), HND.out]
                            · rw [if_neg e]
                              exact HST.out q hq e
                          · first
                              | exact grown_drewN (grown_set HK.out.2.2.1 _ _) _
                              | exact grown_set (grown_drewN HK.out.2.2.1 _) _ _
                        case measure => simp [intOf]; omega
                      · have HH := Lib.hid hx
                        by_cases ha : ia = x3
                        · have hb : (ib == x4) = false := by
                            rw [beq_eq_false_iff_ne]
                            exact fun e => hx ⟨ha, e⟩
                          have ha' : (ia == x3) = true := by simpa using ha
                          clear hx ha
                          go_wp2
                          go_quiet (fail)
                          go_wp2
                          go_roundw
                          case rel =>
                            refine ⟨k + 1, ck, by omega, by go_num, HK.out.1.drewN _, HK.out.2.1.congr (fun q hq => ?_), grown_drewN HK.out.2.2.1 _⟩
                            by_cases e : q = k
                            · subst e
                              rw [if_neg (by omega), if_pos (by omega), upd_eq, if_neg (fun e => HH.out ⟨by rw [← HK.out.2.2.2.1, e], by rw [← HK.out.2.2.2.2, e]⟩)]
                            · exact HST.out q hq e
                          case measure => simp [intOf]; omega
                        · have ha' : (ia == x3) = false := by simpa using ha
                          clear hx ha
                          go_wp2
                          go_quiet (fail)
                          go_wp2
                          go_roundw
                          case rel =>
                            refine ⟨k + 1, ck, by omega, by go_num, HK.out.1.drewN _, HK.out.2.1.congr (fun q hq => ?_), grown_drewN HK.out.2.2.1 _⟩
                            by_cases e : q = k
                            · subst e
                              rw [if_neg (by omega), if_pos (by omega), upd_eq, if_neg (fun e => HH.out ⟨by rw [← HK.out.2.2.2.1, e], by rw [← HK.out.2.2.2.2, e]⟩)]
                            · exact HST.out q hq e
                          case measure => simp [intOf]; omega
                    · obtain rfl : N = k := by omega
                      have hlt3' : ¬ (N : Int) < (N : Int) := by omega
                      have hgr4 := grown_trans' H3.out.2.2.2 hgk
                      have own4 : w4.ownsRow wo.heap.size 23 2 (.slice A3 (m + 1) cap3) (m + 1) (L.flatMap pkc ++ [.int .i64 x3, .int .i64 x4]) := own_grown H3.out.1 hgk hgl
                      have hE5 : RvB r w len P wo w4 gd (L ++ [(x3, x4)]) (upd D (x3, x4) (ndue m w)) (kk + 1) nx2 (.slice A3 (m + 1) cap3) := ⟨by rw [List.length_append, HX2.out.2.2.2, List.flatMap_append]; simpa [pkc] using own4, HPL.out.1, ⟨ck, hbk, by rw [HN.out]; exact hdk.congr (fun q hq => by rw [if_pos hq])⟩, HPL.out.2, hgr4⟩
                      have HE5 := Lib.hid (And.intro HX2.out.2.2.2 hE5)
                      clear hE5 own4 hgr4 hbk hdk hgk HX2 HPL H3 HY
                      go_wp2
                      go_roundw
                      case rel => exact ⟨L ++ [(x3, x4)], _, (kk + 1), nx2, m + 1, by omega, by rw [List.length_append, HE5.out.1]; rfl, by go_num, by first | rfl | go_num, HE5.out.2⟩
                      case measure => simp [intOf]; omega
              · have hpl := Play.own HX2.out.1 _ _ HF.out.1 (.inl (by rw [HX2.out.2.2.2, show D (f % 2) (f / 2) = dr from HF.out.2.1, HWR.out]; omega))
                rw [show (((f % 2 : Nat) : Int), ((f / 2 : Nat) : Int)) = (x1, x2) from by rw [← HF.out.2.2.1, ← HF.out.2.2.2]; rfl, HX2.out.2.2.2] at hpl
                have hnx2 : (0 < len → nx = kk % len) ∧ (len = 0 → nx = 0) := HX2.out.2.2.1
                have HPL := Lib.hid (And.intro hpl hnx2)
                clear hpl hnx2
                have hown := HY.out.1
                have own1 := hown.alloc (.cells #[.int .i64 x1, .int .i64 x2] 23)
                have bX1 := Blk.new w2 23 #[.int .i64 x1, .int .i64 x2]
                have own2 := own1.alloc (.cells #[.int .i64 x1, .int .i64 x2] 23)
                have bX2 := bX1.alloc (.cells #[.int .i64 x1, .int .i64 x2] 23)
                have src := sl_new (w2.alloc (.cells #[.int .i64 x1, .int .i64 x2] 23)) 23 [.int .i64 x1, .int .i64 x2]
                rw [World.size_alloc] at src
                have hsz2 := HY.out.2.2.size
                have hnx : some w2.heap.size ≠ (Value.slice vA m vc).ownBlock := fun e => by
                  obtain ⟨c, hc⟩ := own_block hown w2.heap.size e.symm
                  exact absurd hc.lt (Nat.lt_irrefl _)
                clear own1 bX1 hown
                go_wp2_with (at_builtin; go_must (refine wpList_append_sl _ rfl (.tmp 91) (.tmp 93) 30 rfl wo.heap.size 23 i0 _ 2 16 Try.underlying30 hi hy0 hy1 hy2 rfl (by omega) _ m _ rfl own2 _ 1 _ (fun i => [Value.int .i64 x1, .int .i64 x2].getD i undef) rfl src (fun i hi => by rcases (by omega : i = 0 ∨ i = 1) with rfl | rfl <;> rfl) (by unfold maxLen; omega) (by omega) (by simp; omega) ?_; intro v3 w3 own3 hg3 hv3; clear src))
                rw [show (List.range (1 * 2)).map (fun i => [Value.int .i64 x1, .int .i64 x2].getD i undef) = [Value.int .i64 x1, .int .i64 x2] from rfl] at own3
                obtain ⟨A3, cap3, rfl, _, _⟩ := own_sl own3
                have bX3 := bX2.grown hg3 hnx
                have bD3 : Blk w3 gd 3 cur := ((HY.out.2.1.alloc _).alloc _).grow_own own2 hg3 hgl
                have hgr3 : wo.grownBy w3 (some gd) := grown_row (grown_alloc (grown_alloc HY.out.2.2 _) _) own2 hg3 (Nat.le_refl _)
                have hxg : w2.heap.size ≠ gd := by omega
                have hxl := bX3.lt
                have H3 := Lib.hid (And.intro own3 (And.intro bX3 (And.intro bD3 hgr3)))
                clear cf2 p02 p12 own2 bX2 hnx hg3 hv3 own3 bX3 bD3 hgr3
                go_loopw [18] (fun kv wr => ∃ (k : Nat) (ck : Array Value), k ≤ N ∧ kv = .int .i64 (k : Int) ∧ Blk wr gd 3 ck ∧ DCells ck N (fun q => if q < k then duq (upd D (x1, x2) (ndue m w)) q else duq D q) ∧ w3.grownBy wr (some gd)) (fun kv _ => N - (intOf kv).toNat)
                case atStart => exact ⟨0, cur, Nat.zero_le _, rfl, H3.out.2.2.1, HX2.out.2.1.congr (fun q _ => by rw [if_neg (by omega)]), World.grownBy.refl w3 _⟩
                case round =>
                  obtain ⟨k, ck, hk, rfl, hbk, hdk, hgk⟩ := hrel
                  obtain ⟨w4, rfl⟩ : ∃ w4 : World, w4 = wr := ⟨_, rfl⟩
                  by_cases hlt3 : k < N
                  · have hlt3' : (k : Int) < (N : Int) := by omega
                    have hk0 : (0 : Int) ≤ (k : Int) := by omega
                    have hw0 : (0 : Int) ≤ (w : Int) := by omega
                    have hmw : (m : Int) + 1 ≤ 2000 := by omega
                    have hgr4 := grown_trans' H3.out.2.2.2 hgk
                    have y : ∀ j u, (pkc (itq k))[j]? = some u → w4.cell? ⟨bi, oi + k * 2 + j, none⟩ = some u := fun j u hu => by
                      rw [World.cell?_of_block (w := wo) (a := ⟨bi, oi + k * 2 + j, none⟩) (hgr4.block bi hbi (fun e => hbd (Option.some.inj e)))]
                      exact HIT.out k hlt3 j u (by rw [itL_get _ _ (by have := HN.out; omega)]; exact hu)
                    have y0 := y 0 _ rfl
                    have y1 := y 1 _ rfl
                    rw [Nat.add_zero] at y0
                    have bX4 := H3.out.2.1.grown hgk (fun e => hxg (Option.some.inj e))
                    have z0' := bX4.cell 0
                    have z1' := bX4.cell 1
                    simp only [List.getElem?_toArray, List.getElem?_cons_zero, List.getElem?_cons_succ] at z0' z1'
                    have ck0 := (hbk.cell k).trans (hdk k hlt3)
                    have fk := hbk.frozen k
                    obtain ⟨dk, hdk2⟩ : ∃ d, (if k < k then duq (upd D (x1, x2) (ndue m w)) k else duq D k) = d := ⟨_, rfl⟩
                    dsimp only at ck0
                    rw [hdk2] at ck0
                    obtain ⟨ia, hia⟩ : ∃ a, (itq k).1 = a := ⟨_, rfl⟩
                    obtain ⟨ib, hib⟩ : ∃ a, (itq k).2 = a := ⟨_, rfl⟩
                    rw [hia] at y0
                    rw [hib] at y1
                    have HK := Lib.hid (And.intro hbk (And.intro hdk (And.intro hgk (And.intro hia hib))))
                    clear hbk hdk hgk hia hib hgr4 y bX4 hdk2
                    have hstep : ∀ q, q < N → q ≠ k → (if q < k then duq (upd D (x1, x2) (ndue m w)) q else duq D q) = (if q < k + 1 then duq (upd D (x1, x2) (ndue m w)) q else duq D q) := fun q _ hq => by
                      by_cases h : q < k
                      · rw [if_pos h, if_pos (by omega)]
                      · rw [if_neg h, if_neg (by omega)]
                    have HST := Lib.hid hstep
                    clear hstep
                    by_cases hx : ia = x1 ∧ ib = x2
                    · obtain ⟨rfl, rfl⟩ := hx
                      have hnd : ndue m w = (m : Int) + 1 + (w : Int) := by unfold ndue wrap64; omega
                      have HND := Lib.hid hnd
                      clear hnd
                      go_wp2
                      go_quiet (fail)
                      go_wp2
                      go_roundw
                      case rel =>
                        refine ⟨k + 1, _, by omega, by go_num, ?_, (HK.out.2.1.set_ k hlt3 ((m : Int) + 1 + (w : Int))).congr (fun q hq => ?_), ?_⟩
                        · first
                            | exact (HK.out.1.set_ k _).drewN _
                            | exact (HK.out.1.drewN _).set_ k _
                        · by_cases e : q = k
                          · subst e
                            rw [if_pos rfl, if_pos (by omega), upd_eq, if_pos (by rw [← HK.out.2.2.2.1, ← HK.out.2.2.2.2]), HND.out]
                          · rw [if_neg e]
                            exact HST.out q hq e
                        · first
                            | exact grown_drewN (grown_set HK.out.2.2.1 _ _) _
                            | exact grown_set (grown_drewN HK.out.2.2.1 _) _ _
                      case measure => simp [intOf]; omega
                    · have HH := Lib.hid hx
                      by_cases ha : ia = x1
                      · have hb : (ib == x2) = false := by
                          rw [beq_eq_false_iff_ne]
                          exact fun e => hx ⟨ha, e⟩
                        have ha' : (ia == x1) = true := by simpa using ha
                        clear hx ha
                        go_wp2
                        go_quiet (fail)
                        go_wp2
                        go_roundw
                        case rel =>
                          refine ⟨k + 1, ck, by omega, by go_num, HK.out.1.drewN _, HK.out.2.1.congr (fun q hq => ?_), grown_drewN HK.out.2.2.1 _⟩
                          by_cases e : q = k
                          · subst e
                            rw [if_neg (by omega), if_pos (by omega), upd_eq, if_neg (fun e => HH.out ⟨by rw [← HK.out.2.2.2.1, e], by rw [← HK.out.2.2.2.2, e]⟩)]
                          · exact HST.out q hq e
                        case measure => simp [intOf]; omega
                      · have ha' : (ia == x1) = false := by simpa using ha
                        clear hx ha
                        go_wp2
                        go_quiet (fail)
                        go_wp2
                        go_roundw
                        case rel =>
                          refine ⟨k + 1, ck, by omega, by go_num, HK.out.1.drewN _, HK.out.2.1.congr (fun q hq => ?_), grown_drewN HK.out.2.2.1 _⟩
                          by_cases e : q = k
                          · subst e
                            rw [if_neg (by omega), if_pos (by omega), upd_eq, if_neg (fun e => HH.out ⟨by rw [← HK.out.2.2.2.1, e], by rw [← HK.out.2.2.2.2, e]⟩)]
                          · exact HST.out q hq e
                        case measure => simp [intOf]; omega
                  · obtain rfl : N = k := by omega
                    have hlt3' : ¬ (N : Int) < (N : Int) := by omega
                    have hgr4 := grown_trans' H3.out.2.2.2 hgk
                    have own4 : w4.ownsRow wo.heap.size 23 2 (.slice A3 (m + 1) cap3) (m + 1) (L.flatMap pkc ++ [.int .i64 x1, .int .i64 x2]) := own_grown H3.out.1 hgk hgl
                    have hE5 : RvB r w len P wo w4 gd (L ++ [(x1, x2)]) (upd D (x1, x2) (ndue m w)) kk nx (.slice A3 (m + 1) cap3) := ⟨by rw [List.length_append, HX2.out.2.2.2, List.flatMap_append]; simpa [pkc] using own4, HPL.out.1, ⟨ck, hbk, by rw [HN.out]; exact hdk.congr (fun q hq => by rw [if_pos hq])⟩, HPL.out.2, hgr4⟩
                    have HE5 := Lib.hid (And.intro HX2.out.2.2.2 hE5)
                    clear hE5 own4 hgr4 hbk hdk hgk HX2 HPL H3 HY
                    go_wp2
                    go_roundw
                    case rel => exact ⟨L ++ [(x1, x2)], _, kk, nx, m + 1, by omega, by rw [List.length_append, HE5.out.1]; rfl, by go_num, by first | rfl | go_num, HE5.out.2⟩
                    case measure => simp [intOf]; omega
        · obtain rfl : m = n := by omega
          have hlt2' : ¬ (m : Int) < (m : Int) := by omega
          have hB4 : Below W.heap.size W w1 := H0.out.2.2.1.grown hgr H0.out.2.2.1.size (fun k e => by have := Option.some.inj e; have := H0.out.2.2.2; omega)
          have HZ := Lib.hid (And.intro hplay (And.intro hLm (And.intro (own_base hrow H0.out.2.2.1.size) hB4)))
          clear hplay hLm hrow hblk hdc hnx hgr hB4 hkl
          go_wp2
          go_ret
          obtain ⟨a1, a2, a3, a4⟩ := HZ.out
          exact ⟨_, L, D, kk, rfl, a2, by rw [a2]; exact a3, a1, a4⟩
end Go.Proofs.Ytiodfcemggfnfaa
