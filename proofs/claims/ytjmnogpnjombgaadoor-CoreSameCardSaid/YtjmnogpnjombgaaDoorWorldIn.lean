/- law08's In.world: the document's world of an input. -/
import Derived.Test.YtjmnogpnjombgaaDoorWorldSt
namespace Go.Proofs.YtjmnogpnjombgaaDoor
open Go.ChangeShapes Go.WideShapes Go.ChangeAt Go.RowKit Go.Deep
set_option linter.unusedVariables false
set_option maxRecDepth 100000
set_option linter.unusedSimpArgs false

/-- What of entries goes into a buffer. -/
def bufT (m room : Nat) (l : List (Int × Int)) : List (Int × Int) := l.foldl (fun acc e => if acc.length < room ∧ 0 ≤ e.1 ∧ e.1 < (m : Int) then acc ++ [e] else acc) []
theorem bufT_snoc (m room : Nat) (l : List (Int × Int)) (x : Int × Int) : bufT m room (l ++ [x]) = if (bufT m room l).length < room ∧ 0 ≤ x.1 ∧ x.1 < (m : Int) then bufT m room l ++ [x] else bufT m room l := by
  unfold bufT
  rw [List.foldl_append]
  rfl
theorem th_infoL : (Tryd.prog.info? 25).map (·.size) = some 10 := by kernel_rfl
theorem cell_grown {w w' : World} {r : Option Nat} {g j : Nat} {v : Value} (hg : w.grownBy w' r) (hc : w.cell? ⟨g, j, none⟩ = some v) (hne : some g ≠ r) : w'.cell? ⟨g, j, none⟩ = some v :=
  (World.cell?_of_block (w := w) (a := ⟨g, j, none⟩) (hg.block g (World.block_lt_of_cell? w _ hc) hne)).trans hc
theorem bufT_full (m room : Nat) (l l' : List (Int × Int)) (h : room ≤ (bufT m room l).length) : bufT m room (l ++ l') = bufT m room l := by
  induction l' generalizing l with
  | nil => rw [List.append_nil]
  | cons x r ih =>
    have e : bufT m room (l ++ [x]) = bufT m room l := by rw [bufT_snoc, if_neg (fun h2 => by omega)]
    rw [show l ++ x :: r = (l ++ [x]) ++ r by simp, ih (l ++ [x]) (by rw [e]; exact h), e]
theorem bufT_all (m room : Nat) (Bf : Nat → Int × Int) (k bn : Nat) (hk : k ≤ bn) (h : ¬ (k < bn ∧ (bufT m room ((List.range k).map Bf)).length < room)) : bufT m room ((List.range bn).map Bf) = bufT m room ((List.range k).map Bf) := by
  by_cases hkb : k < bn
  · have e : (List.range bn).map Bf = (List.range k).map Bf ++ ((List.range bn).map Bf).drop k := by
      have h1 := List.take_append_drop k ((List.range bn).map Bf)
      rw [← List.map_take, List.take_range, Nat.min_eq_left hk] at h1
      exact h1.symm
    rw [e]
    exact bufT_full m room _ _ (by have : ¬ (bufT m room ((List.range k).map Bf)).length < room := fun h2 => h ⟨hkb, h2⟩; omega)
  · rw [show bn = k by omega]
theorem si_info3 : (Tryd.prog.info? 26).map (fun i => (i.zero, i.size, i.bytes)) = some (some (.slice none 0 0), 1, 24) := by kernel_rfl
theorem own_fg {w : World} {base len s : Nat} {e : TypeId} {v : Value} {xs : List Value} (h : w.ownsRow base e s v (len + 1) xs) : ∃ g cap, v = .slice (some ⟨g, 0, none⟩) (len + 1) cap ∧ len + 1 ≤ cap ∧ True := by
  obtain ⟨g, cap, h1, _, _, h2⟩ := own_some h (by omega)
  exact ⟨g, cap, h1, h2, trivial⟩
def inArr (t : Th) (c : Cd) (bA : Option Addr) (bn bcap : Nat) (mA : Option Addr) (m mcap z : Nat) (aA : Option Addr) (an acap : Nat) : Array Value := #[.int .i64 t.pc, .int .u32 (t.regs 0), .int .u32 (t.regs 1), .int .u32 (t.regs 2), .int .u32 (t.regs 3), .int .u32 (t.regs 4), .int .u32 (t.regs 5), .int .u32 (t.regs 6), .int .u32 (t.regs 7), .int .i64 t.st, .slice c.A c.len c.cap, .slice bA bn bcap, .slice mA m mcap, .int .u8 (z : Int), .slice aA an acap]

set_option maxHeartbeats 4000000 in
theorem world_any (t : Th) (c : Cd) (bA : Option Addr) (bn bcap : Nat) (Bf : Nat → Int × Int) (mA : Option Addr) (m mcap : Nat) (Z : Nat → Int) (z : Nat) (aA : Option Addr) (an acap : Nat) (Y : Nat → Nat) (w : World)
    (hb : SlE w bA bn 2 (fun i => entc (Bf i))) (hm : Sl w mA m (fun i => .int .u32 (Z i))) (ha : Sl w aA an (fun i => .int .u8 (Y i : Int))) (hbn : bn ≤ 300) (hmn : m ≤ 300) (han : an ≤ 7) (hz : z ≤ 255) (hY : ∀ i, i < an → Y i ≤ 255) :
    Calls Tryd.prog 16 #[.agg (inArr t c bA bn bcap mA m mcap z aA an acap)] w fun e w' => ∃ (nb : Nat) (cA : Option Addr) (cc : Nat) (tA : Option Addr) (tc fg fc : Nat) (bA' : Option Addr) (bc' : Nat) (mvA : Option Addr) (mvc : Nat) (sA : Option Addr) (sc : Nat),
      e = .returned (.agg #[.slice cA (an + 1) cc, .slice tA (an + 1) tc, .slice (some ⟨fg, 0, none⟩) (an + 1) fc, .slice mvA m mvc, .int .i64 ((1 + z % 16 : Nat) : Int), .slice sA an sc, .slice none 0 0, .bool false]) ∧ nb = (bufT m (1 + z % 16) ((List.range bn).map Bf)).length ∧
      w'.ownsRow w.heap.size 26 1 (.slice cA (an + 1) cc) (an + 1) (c.val :: List.replicate an (.slice none 0 0)) ∧ w'.ownsRow w.heap.size 25 10 (.slice tA (an + 1) tc) (an + 1) ((t :: List.replicate an thB).flatMap Th.cells) ∧
      w'.ownsRow w.heap.size 27 1 (.slice (some ⟨fg, 0, none⟩) (an + 1) fc) (an + 1) (.slice bA' nb bc' :: List.replicate an (.slice none 0 0)) ∧ w'.ownsRow w.heap.size 96 2 (.slice bA' nb bc') nb ((bufT m (1 + z % 16) ((List.range bn).map Bf)).flatMap entc) ∧
      w'.ownsRow w.heap.size 22 1 (.slice mvA m mvc) m ((List.range m).map fun i => .int .u32 (Z i)) ∧ w'.ownsRow w.heap.size 98 2 (.slice sA an sc) an (((List.range an).map fun (i : Nat) => (1 + (i : Int), (Y i : Int))).flatMap slpc) ∧ Below w.heap.size w w' := by
  have hI := (Blk.new w 31 (inArr t c bA bn bcap mA m mcap z aA an acap)).alloc (.cells wZ 40)
  have hR := Blk.new2 w (.cells (inArr t c bA bn bcap mA m mcap z aA an acap) 31) 40 wZ
  have hB := ((Below.refl w.heap.size w).alloc (Nat.le_refl _) (.cells (inArr t c bA bn bcap mA m mcap z aA an acap) 31)).alloc (by simp) (.cells wZ 40)
  unfold inArr
  go_enter Tryd.func16, Tryd.ntmps16
  go_upto_region 1 with fail
  generalize hW2 : (w.alloc (.cells (inArr t c bA bn bcap mA m mcap z aA an acap) 31)).alloc (.cells wZ 40) = W2 at hI hR hB
  unfold wZ inArr at hW2
  try rw [hW2]
  clear hW2
  obtain ⟨ib, hib⟩ : ∃ ib, w.heap.size = ib := ⟨_, rfl⟩
  rw [hib] at hI hR
  try rw [hib]
  have i10 : W2.cell? ⟨ib, 10, none⟩ = some (.slice c.A c.len c.cap) := (hI.cell 10).trans rfl
  have hal := (Below.refl W2.heap.size W2).alloc (Nat.le_refl _) (.cells #[.slice c.A c.len c.cap] 26)
  have hI3 := hI.below hal hI.lt
  have i12 : (W2.alloc (.cells #[.slice c.A c.len c.cap] 26)).cell? ⟨ib, 12, none⟩ = some (.slice mA m mcap) := (hI3.cell 12).trans rfl
  have i13 : (W2.alloc (.cells #[.slice c.A c.len c.cap] 26)).cell? ⟨ib, 13, none⟩ = some (.int .u8 (z : Int)) := (hI3.cell 13).trans rfl
  have hm3 := (hm.below (Nat.le_refl _) hB).below (Nat.le_refl _) hal
  have cN := refNew_any (some ⟨W2.heap.size, 0, none⟩) 1 1 (by omega) mA m mcap (by omega) Z (1 + (z : Int) % 16) false _ hm3
  obtain ⟨R, hRR⟩ : ∃ R, (1 + (z : Int) % 16) = R := ⟨_, rfl⟩
  have HRR := Lib.hid hRR
  rw [hRR] at cN
  have hC3 := Blk.new W2 26 #[.slice c.A c.len c.cap]
  have hB3 := step_below hB hal
  have hR3 := hR.below hal hR.lt
  have hcb : ib + 1 < W2.heap.size := hR.lt
  have hz3 : W2.heap.size + 1 = (W2.alloc (.cells #[.slice c.A c.len c.cap] 26)).heap.size := by simp
  have H3 := Lib.hid (And.intro hI3 (And.intro hR3 (And.intro hC3 (And.intro hB3 (And.intro hib (And.intro hcb hz3))))))
  have HA := Lib.hid (And.intro hb ha)
  clear hI hR hB hal hI3 hR3 hC3 hB3 hib hm hm3 hb ha hz3
  obtain ⟨cb, hcbb⟩ : ∃ cb, W2.heap.size = cb := ⟨_, rfl⟩
  rw [hcbb] at cN H3 hcb
  go_wp2_with fail
  try rw [hcbb]
  clear hcbb i10
  generalize W2.alloc (.cells #[.slice c.A c.len c.cap] 26) = W3 at cN H3 i12 i13 ⊢
  refine cN.mono ?_
  rintro e W4 ⟨tv, fv, mv, rfl, ht, hf, hmv, hB4⟩
  obtain ⟨tg, tc, rfl, htg, htl, htc⟩ := own_some ht (by omega)
  obtain ⟨fg, fc, rfl, hfg, hfl, hfc⟩ := own_some hf (by omega)
  obtain ⟨mvA, mvc, rfl, _, _⟩ := own_sl hmv
  have H4 := Lib.hid (And.intro ht (And.intro hf (And.intro hmv hB4)))
  clear cN ht hf hmv hB4 i12 i13
  clear hRR
  go_upto_region 2 with fail
  obtain ⟨hI3, hR3, hC3, hB3, hib, hcb, hz3⟩ := H3.out
  obtain ⟨ht, hf, hmv, hB4⟩ := H4.out
  have hal := (Below.refl W4.heap.size W4).alloc (Nat.le_refl _) (.cells #[.slice (some ⟨cb, 0, none⟩) 1 1, .slice (some ⟨tg, 0, none⟩) 1 tc, .slice (some ⟨fg, 0, none⟩) 1 fc, .slice mvA m mvc, .int .i64 R, .slice none 0 0, .slice none 0 0, .bool false] 40)
  have hB5 := step_below (step_below hB3 hB4) hal
  have hg5 := Blk.new W4 40 #[.slice (some ⟨cb, 0, none⟩) 1 1, .slice (some ⟨tg, 0, none⟩) 1 tc, .slice (some ⟨fg, 0, none⟩) 1 fc, .slice mvA m mvc, .int .i64 R, .slice none 0 0, .slice none 0 0, .bool false]
  have hb5 : ∀ {g : Nat} {ty : TypeId} {cs : Array Value}, Blk W3 g ty cs → Blk (W4.alloc (.cells #[.slice (some ⟨cb, 0, none⟩) 1 1, .slice (some ⟨tg, 0, none⟩) 1 tc, .slice (some ⟨fg, 0, none⟩) 1 fc, .slice mvA m mvc, .int .i64 R, .slice none 0 0, .slice none 0 0, .bool false] 40)) g ty cs := fun h => (h.below hB4 h.lt).below hal (Nat.lt_of_lt_of_le h.lt hB4.size)
  have hbase : ib ≤ W3.heap.size := by omega
  have hW5 : WIn (W4.alloc (.cells #[.slice (some ⟨cb, 0, none⟩) 1 1, .slice (some ⟨tg, 0, none⟩) 1 tc, .slice (some ⟨fg, 0, none⟩) 1 fc, .slice mvA m mvc, .int .i64 R, .slice none 0 0, .slice none 0 0, .bool false] 40)) ib W4.heap.size ib (ib + 1) (inArr t c bA bn bcap mA m mcap z aA an acap) c.val thZ 0 0 0 0 0 m [] [] ((List.range m).map fun i => .int .u32 (Z i)) R (some ⟨cb, 0, none⟩) 1 (some ⟨tg, 0, none⟩) tc fg fc none 0 (.slice mvA m mvc) none 0 :=
    ⟨hg5, hb5 hI3, hb5 hR3, (by have := hR3.lt; have := hB4.size; omega), ⟨rfl, .inr ⟨cb, 1, #[.slice c.A c.len c.cap], rfl, by omega, hb5 hC3, by omega, by unfold maxLen; omega, rfl, rfl⟩⟩, own_base (own_below ht (Nat.le_refl _) hal) hbase, own_base (own_below hf (Nat.le_refl _) hal) hbase, ⟨rfl, .inl ⟨rfl, rfl⟩⟩, own_base (own_below hmv (Nat.le_refl _) hal) hbase, ⟨rfl, .inl ⟨rfl, rfl⟩⟩⟩
  obtain ⟨gb, hgb⟩ : ∃ gb, W4.heap.size = gb := ⟨_, rfl⟩
  rw [hgb] at hW5
  try rw [hgb]
  have hgl : ib + 1 < gb := by have := hR3.lt; have := hB4.size; omega
  have HIB := Lib.hid hib
  clear hI3 hR3 hC3 hB3 hib hcb hz3 ht hf hmv hB4 H3 H4 hal hg5 hb5 hbase hgb htg htl htc hfg hfl hfc
  generalize W4.alloc (.cells #[.slice (some ⟨cb, 0, none⟩) 1 1, .slice (some ⟨tg, 0, none⟩) 1 tc, .slice (some ⟨fg, 0, none⟩) 1 fc, .slice mvA m mvc, .int .i64 R, .slice none 0 0, .slice none 0 0, .bool false] 40) = W5 at hW5 hB5 ⊢
  have g1 : W5.cell? ⟨gb, 1, none⟩ = some (.slice (some ⟨tg, 0, none⟩) 1 tc) := (hW5.1.cell 1).trans rfl
  have hrg : W5.rangeAt ib 0 t.cells := fun j v hv => by
    have hj := (List.getElem?_eq_some_iff.1 hv).1
    rw [th_len] at hj
    rw [Nat.zero_add, hW5.2.1.cell]
    rcases ten hj with rfl | rfl | rfl | rfl | rfl | rfl | rfl | rfl | rfl | rfl <;> exact hv
  have hth : W5.there tg 0 10 := own_there hW5.2.2.2.2.2.1 (by decide)
  obtain ⟨hW6, hg6⟩ := hW5.setT (t' := t) (tA := none) (nt := 0)
  have hB6 := hB5.grown hg6 (Nat.le_trans (Nat.le_refl _) hB5.size) (fun k e => by have := own_ge hW5.2.2.2.2.2.1 k (by rw [← e]; rfl); have := HIB.out; omega)
  have H6 := Lib.hid (And.intro hW6 hB6)
  clear hW6 hB6 hg6 hW5 hB5
  go_upto_region 3 with (first
    | (refine wpList_load_mid rfl 25 (.tmp 20) rfl ib 0 rfl t.cells _ hrg Tryd.underlying25 rfl th_infoL ?_)
    | (refine wpList_store_mid rfl 25 (.tmp 22) (.tmp 21) rfl tg 0 t.cells.toArray rfl rfl hth th_info (th_one t) ?_))
  try simp only [List.toList_toArray] at *
  generalize W5.setCells tg 0 t.cells = W6 at H6 ⊢
  clear hrg hth g1
  obtain ⟨room, hroom⟩ : ∃ room : Nat, R = (room : Int) := ⟨R.toNat, by have := HRR.out; omega⟩
  subst hroom
  have HIBW := Lib.hid HIB.out
  clear HIB
  go_wp2
  go_loopw [4] (fun i wr => ∃ (k nb : Nat) (bl : List (Int × Int)) (bA' : Option Addr) (bc' : Nat), k ≤ bn ∧ i = .int .i64 k ∧ Hid (bufT m room ((List.range k).map Bf) = bl ∧ bl.length = nb) ∧ WIn wr ib gb ib (ib + 1) (inArr t c bA bn bcap mA m mcap z aA an acap) c.val t 0 0 0 nb 0 m bl [] ((List.range m).map fun i => .int .u32 (Z i)) (room : Int) (some ⟨cb, 0, none⟩) 1 (some ⟨tg, 0, none⟩) tc fg fc bA' bc' (.slice mvA m mvc) none 0 ∧ Below w.heap.size w wr) (fun i _ => bn - (intOf i).toNat)
  case atStart => exact ⟨0, 0, [], none, 0, Nat.zero_le _, rfl, Lib.hid ⟨rfl, rfl⟩, H6.out.1, H6.out.2⟩
  case round =>
    clear H6
    obtain ⟨k, nb, bl, bA', bc', hk, rfl, HBL, hW, hBr⟩ := hrel
    have i11 : wr.cell? ⟨ib, 11, none⟩ = some (.slice bA bn bcap) := (hW.2.1.cell 11).trans rfl
    have g2 : wr.cell? ⟨gb, 2, none⟩ = some (.slice (some ⟨fg, 0, none⟩) 1 fc) := (hW.1.cell 2).trans rfl
    have g4 : wr.cell? ⟨gb, 4, none⟩ = some (.int .i64 (room : Int)) := (hW.1.cell 4).trans rfl
    have f0 := hW.f0.1
    go_upto_region 4 with fail
    go_cut [37] (fun s wx => ∃ q, s = .bool (decide ((k : Int) < (bn : Int)) && decide ((nb : Int) < (room : Int))) ∧ wx = wr.drewN q)
    case first =>
      have HW := Lib.hid (And.intro hW hBr)
      clear hW hBr
      by_cases h1 : (k : Int) < (bn : Int)
      · by_cases h2 : (nb : Int) < (room : Int)
        · go_quiet (fail)
          go_wp2_with fail
          go_meet
          case rel => exact ⟨_, by first | (simp [h1, h2]; done) | (simp [h1]; omega) | (simp; intros; omega), rfl⟩
        · go_quiet (fail)
          go_wp2_with fail
          go_meet
          case rel => exact ⟨_, by first | (simp [h1, h2]; done) | (simp [h1]; omega) | (simp; intros; omega), rfl⟩
      · go_quiet (fail)
        go_wp2_with fail
        go_meet
        case rel => exact ⟨_, by first | (simp [h1]; done) | (simp; intros; omega), rfl⟩
    case rest =>
      obtain ⟨q, rfl, rfl⟩ := hcut
      have hW := hW.drewN q
      have hBr : Below w.heap.size w (wr.drewN q) := ⟨hBr.os, hBr.tape, hBr.output, hBr.size, hBr.block⟩
      clear i11 g2 g4 f0
      generalize wr.drewN q = wq at hW hBr ⊢
      by_cases hc : k < bn ∧ nb < room
      · have hd : (decide ((k : Int) < (bn : Int)) && decide ((nb : Int) < (room : Int))) = true := by simp; omega
        rw [hd]
        obtain ⟨hkb, hnr⟩ := hc
        clear hd
        have hk0 : (0 : Int) ≤ (k : Int) := by omega
        have hk1 : (k : Int) < (bn : Int) := by omega
        obtain ⟨b, off, hbA, hblt, hcc⟩ := HA.out.1 (by omega)
        have e0 : wq.cell? ⟨b, off + k * 2, none⟩ = some (.int .i64 (Bf k).1) := keepAt hBr hblt (hcc k hkb 0 _ rfl)
        have e1 : wq.cell? ⟨b, off + k * 2 + 1, none⟩ = some (.int .u32 (Bf k).2) := keepAt hBr hblt (hcc k hkb 1 _ rfl)
        have i11 : wq.cell? ⟨ib, 11, none⟩ = some (.slice (some ⟨b, off, none⟩) bn bcap) := (hW.2.1.cell 11).trans (by show some (Value.slice bA bn bcap) = _; rw [hbA])
        have i12 : wq.cell? ⟨ib, 12, none⟩ = some (.slice mA m mcap) := (hW.2.1.cell 12).trans rfl
        have hsn : bufT m room ((List.range (k + 1)).map Bf) = if nb < room ∧ 0 ≤ (Bf k).1 ∧ (Bf k).1 < (m : Int) then bl ++ [Bf k] else bl := by
          rw [List.range_succ, List.map_append, List.map_cons, List.map_nil, bufT_snoc, HBL.out.1, HBL.out.2]
        have HSN := Lib.hid hsn
        have HBA := Lib.hid hbA
        clear hsn hcc hbA
        obtain ⟨⟨xa, xv⟩, hx⟩ : ∃ x, Bf k = x := ⟨_, rfl⟩
        rw [hx] at e0 e1 HSN
        clear hx
        dsimp only at e0 e1
        go_upto_region 6 with fail
        go_cut [58] (fun s wx => ∃ q, s = .bool (decide (0 ≤ xa) && decide (xa < (m : Int))) ∧ wx = wq.drewN q)
        case first =>
          have HW := Lib.hid (And.intro hW hBr)
          clear hW hBr
          by_cases h1 : 0 ≤ xa
          · by_cases h2 : xa < (m : Int)
            · go_quiet (fail)
              go_wp2_with fail
              go_meet
              case rel => exact ⟨_, by first | (simp [h1, h2]; done) | (simp [h1]; omega) | (simp; intros; omega), rfl⟩
            · go_quiet (fail)
              go_wp2_with fail
              go_meet
              case rel => exact ⟨_, by first | (simp [h1, h2]; done) | (simp [h1]; omega) | (simp; intros; omega), rfl⟩
          · go_quiet (fail)
            go_wp2_with fail
            go_meet
            case rel => exact ⟨_, by first | (simp [h1]; done) | (simp; intros; omega), rfl⟩
        case rest =>
          obtain ⟨q, rfl, rfl⟩ := hcut
          have hW := hW.drewN q
          have hBr : Below w.heap.size w (wq.drewN q) := ⟨hBr.os, hBr.tape, hBr.output, hBr.size, hBr.block⟩
          have e0 : (wq.drewN q).cell? ⟨b, off + k * 2, none⟩ = some (.int .i64 xa) := e0
          have e1 : (wq.drewN q).cell? ⟨b, off + k * 2 + 1, none⟩ = some (.int .u32 xv) := e1
          clear i11 i12
          generalize wq.drewN q = wp at hW hBr e0 e1 ⊢
          by_cases hc : 0 ≤ xa ∧ xa < (m : Int)
          · have hd : (decide (0 ≤ xa) && decide (xa < (m : Int))) = true := by simp; omega
            rw [hd]
            clear hd
            have HSN2 := Lib.hid (HSN.out.trans (if_pos ⟨hnr, hc⟩))
            clear HSN
            go_upto_region 7 with fail
            have hwd : Below w.heap.size w wp.drew := hBr.drew
            have hWd := hW.drew
            obtain ⟨cur, hfb⟩ : ∃ cur, Blk wp.drew fg 27 cur := by
              obtain ⟨g, cap, e, _, _, ⟨cur, hb⟩, _, _, _⟩ := row_set hWd.2.2.2.2.2.2.1 (i := 0) (by omega) (.slice none 0 0)
              injection e with e _ e3
              injection e with e
              injection e with e _ _
              subst e
              exact ⟨cur, hb⟩
            have r4 := hWd.2.2.2.2.2.2.2.1
            have hibw := HIBW.out
            have hb2 : ib ≤ wp.drew.heap.size := by rw [← hibw]; exact hwd.size
            have HC := Lib.hid (And.intro (And.intro ((hWd.1.cell 2).trans rfl : wp.drew.cell? ⟨gb, 2, none⟩ = some (.slice (some ⟨fg, 0, none⟩) 1 fc)) (row_ne hWd.1 r4 (by decide))) (And.intro (And.intro hWd.f0.1 (row_ne hfb r4 (by decide))) (And.intro (And.intro ((hWd.2.1.cell 11).trans (by show some (Value.slice bA bn bcap) = _; rw [HBA.out]) : wp.drew.cell? ⟨ib, 11, none⟩ = some (.slice (some ⟨b, off, none⟩) bn bcap)) (row_ne hWd.2.1 r4 (by decide)))
              (And.intro (show some b ≠ (Value.slice bA' nb bc').ownBlock from fun e => by have := own_ge r4 b e.symm; omega) (And.intro (show wp.drew.cell? ⟨b, off + k * 2, none⟩ = some (.int .i64 xa) from e0) (show wp.drew.cell? ⟨b, off + k * 2 + 1, none⟩ = some (.int .u32 xv) from e1))))))
            have HFZ := Lib.hid (fun W' (hg : wp.drew.grownBy W' (Value.slice bA' nb bc').ownBlock) => (hfb.grown hg (row_ne hfb r4 (by decide))).frozen 0)
            have HE := Lib.hid (fun W4 A4 c4 (hg : wp.drew.grownBy W4 (Value.slice bA' nb bc').ownBlock) (hr : W4.ownsRow ib 96 2 (.slice A4 (nb + 1) c4) (nb + 1) (bl.flatMap entc ++ entc (xa, xv))) =>
              (⟨WIn.addB (x := (xa, xv)) hWd (by rw [List.flatMap_append]; simpa using hr) hg, by
                have h1 : Below w.heap.size w W4 := hwd.grown hg (Nat.le_trans (Nat.le_refl _) hwd.size) (fun k e => by have := own_ge r4 k e; omega)
                exact h1.grown (set_only _) h1.size (fun k e => by have := Option.some.inj e; have := own_ge hWd.2.2.2.2.2.2.1 fg rfl; omega)⟩ : WIn (W4.setCell ⟨fg, 0, none⟩ (.slice A4 (nb + 1) c4)) ib gb ib (ib + 1) (inArr t c bA bn bcap mA m mcap z aA an acap) c.val t 0 0 0 (nb + 1) 0 m (bl ++ [(xa, xv)]) [] ((List.range m).map fun i => .int .u32 (Z i)) (room : Int) (some ⟨cb, 0, none⟩) 1 (some ⟨tg, 0, none⟩) tc fg fc A4 c4 (.slice mvA m mvc) none 0 ∧ Below w.heap.size w (W4.setCell ⟨fg, 0, none⟩ (.slice A4 (nb + 1) c4))))
            have HR := Lib.hid r4
            have hnb : nb ≤ 16 := by have := HRR.out; omega
            obtain ⟨j0, ji, jy0, jy1, jy2⟩ := info_parts ent_info3
            clear hW hBr hwd hWd hfb r4 e0 e1
            refine startG (fun W' => wp.drew.grownBy W' (Value.slice bA' nb bc').ownBlock) 14 (by kernel_rfl) ?_
            generalize wp.drew = W2 at HC HFZ HE HR hb2 ⊢
            have hg0 : W2.grownBy W2 (Value.slice bA' nb bc').ownBlock := World.grownBy.refl _ _
            refine takeG0 (i := 0) (v := .pointer (some ⟨gb, 2, none⟩)) rfl (by kernel_rfl) (by kernel_rfl) (by kernel_rfl) (by kernel_rfl) (fun _ _ _ h => h) (Or.inl ⟨by rfl, fun W hW => by go_simp⟩) hg0 ?_
            simp only [Act.put, List.getElem_toArray, List.getElem_cons_zero, List.getElem_cons_succ, List.setIfInBounds_toArray, List.set_cons_zero, List.set_cons_succ]
            refine takeG (i := 1) (v := .slice (some ⟨fg, 0, none⟩) 1 fc) rfl (by kernel_rfl) (by kernel_rfl) (by kernel_rfl) (by kernel_rfl) (fun _ _ _ h => h) (Or.inl ⟨by rfl, fun W hW => by have q0 := cell_grown hW HC.out.1.1 HC.out.1.2; go_simp⟩) hg0 ?_
            simp only [Act.put, List.getElem_toArray, List.getElem_cons_zero, List.getElem_cons_succ, List.setIfInBounds_toArray, List.set_cons_zero, List.set_cons_succ]
            refine takeG0 (i := 2) (v := .pointer (some ⟨gb, 2, none⟩)) rfl (by kernel_rfl) (by kernel_rfl) (by kernel_rfl) (by kernel_rfl) (fun _ _ _ h => h) (Or.inl ⟨by rfl, fun W hW => by go_simp⟩) hg0 ?_
            simp only [Act.put, List.getElem_toArray, List.getElem_cons_zero, List.getElem_cons_succ, List.setIfInBounds_toArray, List.set_cons_zero, List.set_cons_succ]
            refine takeG (i := 3) (v := .slice (some ⟨fg, 0, none⟩) 1 fc) rfl (by kernel_rfl) (by kernel_rfl) (by kernel_rfl) (by kernel_rfl) (fun _ _ _ h => h) (Or.inl ⟨by rfl, fun W hW => by have q0 := cell_grown hW HC.out.1.1 HC.out.1.2; go_simp⟩) hg0 ?_
            simp only [Act.put, List.getElem_toArray, List.getElem_cons_zero, List.getElem_cons_succ, List.setIfInBounds_toArray, List.set_cons_zero, List.set_cons_succ]
            refine takeG0 (i := 4) (v := .pointer (some ⟨fg, 0, none⟩)) rfl (by kernel_rfl) (by kernel_rfl) (by kernel_rfl) (by kernel_rfl) (fun _ _ _ h => h) (Or.inl ⟨by rfl, fun W hW => by go_simp⟩) hg0 ?_
            simp only [Act.put, List.getElem_toArray, List.getElem_cons_zero, List.getElem_cons_succ, List.setIfInBounds_toArray, List.set_cons_zero, List.set_cons_succ]
            refine takeG (i := 5) (v := .slice bA' nb bc') rfl (by kernel_rfl) (by kernel_rfl) (by kernel_rfl) (by kernel_rfl) (fun _ _ _ h => h) (Or.inl ⟨by rfl, fun W hW => by have q0 := cell_grown hW HC.out.2.1.1 HC.out.2.1.2; go_simp⟩) hg0 ?_
            simp only [Act.put, List.getElem_toArray, List.getElem_cons_zero, List.getElem_cons_succ, List.setIfInBounds_toArray, List.set_cons_zero, List.set_cons_succ]
            refine takeG0 (i := 6) (v := .pointer (some ⟨ib, 11, none⟩)) rfl (by kernel_rfl) (by kernel_rfl) (by kernel_rfl) (by kernel_rfl) (fun _ _ _ h => h) (Or.inl ⟨by rfl, fun W hW => by go_simp⟩) hg0 ?_
            simp only [Act.put, List.getElem_toArray, List.getElem_cons_zero, List.getElem_cons_succ, List.setIfInBounds_toArray, List.set_cons_zero, List.set_cons_succ]
            refine takeG (i := 7) (v := .slice (some ⟨b, off, none⟩) bn bcap) rfl (by kernel_rfl) (by kernel_rfl) (by kernel_rfl) (by kernel_rfl) (fun _ _ _ h => h) (Or.inl ⟨by rfl, fun W hW => by have q0 := cell_grown hW HC.out.2.2.1.1 HC.out.2.2.1.2; go_simp⟩) hg0 ?_
            simp only [Act.put, List.getElem_toArray, List.getElem_cons_zero, List.getElem_cons_succ, List.setIfInBounds_toArray, List.set_cons_zero, List.set_cons_succ]
            refine takeG0 (i := 8) (v := .int .i64 (k : Int)) rfl (by kernel_rfl) (by kernel_rfl) (by kernel_rfl) (by kernel_rfl) (fun _ _ _ h => h) (Or.inl ⟨by rfl, fun W hW => by go_simp⟩) hg0 ?_
            simp only [Act.put, List.getElem_toArray, List.getElem_cons_zero, List.getElem_cons_succ, List.setIfInBounds_toArray, List.set_cons_zero, List.set_cons_succ]
            refine takeG0 (i := 9) (v := .pointer (some ⟨b, off + k * 2, none⟩)) rfl (by kernel_rfl) (by kernel_rfl) (by kernel_rfl) (by kernel_rfl) (fun _ _ _ h => h) (Or.inl ⟨by rfl, fun W hW => by go_simp⟩) hg0 ?_
            simp only [Act.put, List.getElem_toArray, List.getElem_cons_zero, List.getElem_cons_succ, List.setIfInBounds_toArray, List.set_cons_zero, List.set_cons_succ]
            refine takeG (i := 10) (v := .agg #[.int .i64 xa, .int .u32 xv]) rfl (by kernel_rfl) (by kernel_rfl) (by kernel_rfl) (by kernel_rfl) (fun _ _ _ h => h) (Or.inl ⟨by rfl, fun W hW => by have q0 := cell_grown hW HC.out.2.2.2.2.1 HC.out.2.2.2.1; have q1 := cell_grown hW HC.out.2.2.2.2.2 HC.out.2.2.2.1; go_simp⟩) hg0 ?_
            simp only [Act.put, List.getElem_toArray, List.getElem_cons_zero, List.getElem_cons_succ, List.setIfInBounds_toArray, List.set_cons_zero, List.set_cons_succ]
            refine onlyG (i := 11) (by kernel_rfl) rfl (fun K hK => ?_)
            go_simp
            have hA : W2.grownBy (W2.alloc (.cells #[.int .i64 xa, .int .u32 xv] 96)) (Value.slice bA' nb bc').ownBlock := grown_alloc (World.grownBy.refl _ _) _
            have own2 := own_below HR.out (Nat.le_refl _) ((Below.refl W2.heap.size W2).alloc (Nat.le_refl _) (.cells #[.int .i64 xa, .int .u32 xv] 96))
            have src := sl_new W2 96 (entc (xa, xv))
            refine hK.out _ _ hA (fun _ => ?_)
            clear hK K
            try simp only [Act.put, List.getElem_toArray, List.getElem_cons_zero, List.getElem_cons_succ, List.setIfInBounds_toArray, List.set_cons_zero, List.set_cons_succ]
            refine onlyG (i := 12) (by kernel_rfl) rfl (fun K hK => ?_)
            rw [if_pos (by rfl)]
            refine wp_append_sl _ (.tmp 64) (.tmp 70) 27 rfl ib 96 j0 _ 2 16 Tryd.underlying27 ji jy0 jy1 jy2 rfl (by omega) _ nb _ rfl own2 _ 1 _ (fun i => (entc (xa, xv)).getD i undef) rfl src (entc_one _) (by unfold maxLen; omega) (by omega) (by simp; omega) ?_
            intro v4 W4 own4 hg4 _
            rw [range_getD (entc (xa, xv)) (1 * 2) rfl] at own4
            have hg4' := grown_trans' hA hg4
            obtain ⟨A4, c4, rfl, _, _⟩ := own_sl own4
            have y6 := cell_grown hg4' HC.out.2.1.1 HC.out.2.1.2
            have f6 := HFZ.out _ hg4'
            have HF := Lib.hid (HE.out W4 A4 c4 hg4' own4)
            refine hK.out _ _ hg4' (fun _ => ?_)
            clear hK K hg4 own2 src hA own4
            try simp only [Act.put, List.getElem_toArray, List.getElem_cons_zero, List.getElem_cons_succ, List.setIfInBounds_toArray, List.set_cons_zero, List.set_cons_succ]
            refine takeG0 (i := 13) (v := .pointer (some ⟨fg, 0, none⟩)) rfl (by kernel_rfl) (by kernel_rfl) (by kernel_rfl) (by kernel_rfl) (fun _ _ _ h => h) (Or.inl ⟨by rfl, fun W hW => by go_simp⟩) hg4' ?_
            simp only [Act.put, List.getElem_toArray, List.getElem_cons_zero, List.getElem_cons_succ, List.setIfInBounds_toArray, List.set_cons_zero, List.set_cons_succ]
            refine lastG (by kernel_rfl) rfl (by kernel_rfl) (fun K hK => ?_)
            go_simp
            refine hK.out _ _ ?_
            clear hK K y6 f6 hg4'
            go_wp2
            go_roundw
            case rel => exact ⟨k + 1, nb + 1, bl ++ [(xa, xv)], A4, c4, by omega, by go_num, Lib.hid ⟨HSN2.out, by rw [List.length_append, HBL.out.2]; rfl⟩, HF.out.1, HF.out.2⟩
            case measure => simp [intOf]; omega
          · have hd : (decide (0 ≤ xa) && decide (xa < (m : Int))) = false := by simp; omega
            rw [hd]
            clear hd e0 e1
            have HSN2 := Lib.hid (HSN.out.trans (if_neg (fun h => hc h.2)))
            have HW := Lib.hid (And.intro hW hBr)
            clear hW hBr HSN
            go_wp2
            go_roundw
            case rel => exact ⟨k + 1, nb, bl, bA', bc', by omega, by go_num, Lib.hid ⟨HSN2.out, HBL.out.2⟩, HW.out.1, HW.out.2⟩
            case measure => simp [intOf]; omega
      · have hd : (decide ((k : Int) < (bn : Int)) && decide ((nb : Int) < (room : Int))) = false := by simp; omega
        rw [hd]
        clear hd
        have hfull := bufT_all m room Bf k bn hk (by rw [HBL.out.1, HBL.out.2]; omega)
        have HBL2 := Lib.hid (And.intro (hfull.trans HBL.out.1) HBL.out.2)
        have HW := Lib.hid (And.intro hW hBr)
        obtain ⟨x0, xi, xy0, xy1, xy2⟩ := info_parts th_info3
        obtain ⟨y0, yi, yy0, yy1, yy2⟩ := info_parts se_info3
        obtain ⟨v0, vi, vy0, vy1, vy2⟩ := info_parts si_info3
        obtain ⟨u0, ui, uy0, uy1, uy2⟩ := info_parts slp_info3
        clear hW hBr HBL hfull hc hk
        go_wp2
        go_loopw [5] (fun i wr => ∃ (k : Nat) (cA : Option Addr) (cc : Nat) (tA : Option Addr) (tc fg fc : Nat) (sA : Option Addr) (sc : Nat), k ≤ an ∧ i = .int .i64 k ∧ WIn wr ib gb ib (ib + 1) (inArr t c bA bn bcap mA m mcap z aA an acap) c.val t k k k nb k m bl ((List.range k).map fun (i : Nat) => (1 + (i : Int), (Y i : Int))) ((List.range m).map fun i => .int .u32 (Z i)) (room : Int) cA cc tA tc fg fc bA' bc' (.slice mvA m mvc) sA sc ∧ Below w.heap.size w wr) (fun i _ => an - (intOf i).toNat)
        case atStart => exact ⟨0, _, _, _, _, _, _, _, _, Nat.zero_le _, rfl, HW.out.1, HW.out.2⟩
        case round =>
          clear HW
          obtain ⟨k, cA, cc, tA, tc, fg, fc, sA, sc, hk, rfl, hW, hBr⟩ := hrel
          have i14 : wr.cell? ⟨ib, 14, none⟩ = some (.slice aA an acap) := (hW.2.1.cell 14).trans rfl
          by_cases hkn : k < an
          · have hk1 : (k : Int) < (an : Int) := by omega
            have hk0 : (0 : Int) ≤ (k : Int) := by omega
            have g1 : wr.cell? ⟨gb, 1, none⟩ = some (.slice tA (k + 1) tc) := (hW.1.cell 1).trans rfl
            have hal := (Below.refl wr.heap.size wr).alloc (Nat.le_refl _) (.cells thB.cells.toArray 25)
            have src := sl_new wr 25 thB.cells
            have hW := hW.below hal
            have hBr := step_below hBr hal
            have hr := hW.2.2.2.2.2.1
            have hz : ib ≤ (wr.alloc (.cells thB.cells.toArray 25)).heap.size := by rw [← HIBW.out]; exact hBr.size
            have HW := Lib.hid (And.intro hW hBr)
            have hone : ∀ i, i < 1 * 10 → (thB.cells.getD i undef).oneCell' = true := fun i hi => by rcases ten (by omega : i < 10) with rfl | rfl | rfl | rfl | rfl | rfl | rfl | rfl | rfl | rfl <;> rfl
            clear hW hBr
            go_upto_region 12 with (at_builtin; refine wpList_append_sl _ rfl (.tmp 81) (.tmp 83) 35 rfl ib 25 x0 _ 10 48 Tryd.underlying35 xi xy0 xy1 xy2 rfl (by omega) _ (k + 1) _ rfl hr _ 1 _ (fun i => thB.cells.getD i undef) rfl src hone (by unfold maxLen; omega) (by omega) hz ?_; intro v5 w5 hown5 hg5 _; rw [range_getD thB.cells (1 * 10) rfl] at hown5; obtain ⟨tA2, tc2, rfl, _, _⟩ := own_sl hown5; have hb5 := HW.out.1.1.grown hg5 (row_ne HW.out.1.1 hr (by decide)); have q5 : w5.cell? ⟨gb, 1, none⟩ = some (.slice tA (k + 1) tc) := (hb5.cell 1).trans rfl; have f5 := hb5.frozen 1)
            have hW := WIn.addT HW.out.1 (show w5.ownsRow _ _ _ _ _ _ from (by rw [List.replicate_succ', ← List.cons_append, List.flatMap_append]; simpa using hown5)) hg5
            have hBr := below_row (below_own HW.out.2 hr hg5 (Nat.le_of_eq HIBW.out) (Nat.le_refl _)) (set_only (w := w5) (g := gb) (j := 1) (.slice tA2 (k + 1 + 1) tc2)) (Nat.le_trans HW.out.2.size hg5.size) (by have := HIBW.out; omega)
            clear g1 hal src hr hz HW hone q5 f5 hb5 hg5 hown5
            generalize w5.setCell ⟨gb, 1, none⟩ (.slice tA2 (k + 1 + 1) tc2) = wn1 at hW hBr ⊢
            have g2 : wn1.cell? ⟨gb, 2, none⟩ = some (.slice (some ⟨fg, 0, none⟩) (k + 1) fc) := (hW.1.cell 2).trans rfl
            have hal := (Below.refl wn1.heap.size wn1).alloc (Nat.le_refl _) (.cells ([Value.slice none 0 0] : List Value).toArray 27)
            have src := sl_new wn1 27 ([Value.slice none 0 0] : List Value)
            have hW := hW.below hal
            have hBr := step_below hBr hal
            have hr := hW.2.2.2.2.2.2.1
            have hz : ib ≤ (wn1.alloc (.cells ([Value.slice none 0 0] : List Value).toArray 27)).heap.size := by rw [← HIBW.out]; exact hBr.size
            have HW := Lib.hid (And.intro hW hBr)
            have hone : ∀ i, i < 1 * 1 → (([Value.slice none 0 0] : List Value).getD i undef).oneCell' = true := fun i hi => by obtain rfl : i = 0 := (by omega); rfl
            clear hW hBr
            go_upto_region 13 with (at_builtin; refine wpList_append_sl _ rfl (.tmp 87) (.tmp 88) 36 rfl ib 27 y0 _ 1 24 Tryd.underlying36 yi yy0 yy1 yy2 rfl (by omega) _ (k + 1) _ rfl hr _ 1 _ (fun i => ([Value.slice none 0 0] : List Value).getD i undef) rfl src hone (by unfold maxLen; omega) (by omega) hz ?_; intro v5 w5 hown5 hg5 _; rw [range_getD ([Value.slice none 0 0] : List Value) (1 * 1) rfl] at hown5; obtain ⟨fg2, fc2, rfl, _, _⟩ := own_fg hown5; have hb5 := HW.out.1.1.grown hg5 (row_ne HW.out.1.1 hr (by decide)); have q5 : w5.cell? ⟨gb, 2, none⟩ = some (.slice (some ⟨fg, 0, none⟩) (k + 1) fc) := (hb5.cell 2).trans rfl; have f5 := hb5.frozen 2)
            have hW := WIn.addF HW.out.1 (show w5.ownsRow _ _ _ _ _ _ from (by rw [List.replicate_succ', ← List.cons_append]; exact hown5)) hg5
            have hBr := below_row (below_own HW.out.2 hr hg5 (Nat.le_of_eq HIBW.out) (Nat.le_refl _)) (set_only (w := w5) (g := gb) (j := 2) (.slice (some ⟨fg2, 0, none⟩) (k + 1 + 1) fc2)) (Nat.le_trans HW.out.2.size hg5.size) (by have := HIBW.out; omega)
            clear g2 hal src hr hz HW hone q5 f5 hb5 hg5 hown5
            generalize w5.setCell ⟨gb, 2, none⟩ (.slice (some ⟨fg2, 0, none⟩) (k + 1 + 1) fc2) = wn2 at hW hBr ⊢
            have g0 : wn2.cell? ⟨gb, 0, none⟩ = some (.slice cA (k + 1) cc) := (hW.1.cell 0).trans rfl
            have hal := (Below.refl wn2.heap.size wn2).alloc (Nat.le_refl _) (.cells ([Value.slice none 0 0] : List Value).toArray 26)
            have src := sl_new wn2 26 ([Value.slice none 0 0] : List Value)
            have hW := hW.below hal
            have hBr := step_below hBr hal
            have hr := hW.2.2.2.2.1
            have hz : ib ≤ (wn2.alloc (.cells ([Value.slice none 0 0] : List Value).toArray 26)).heap.size := by rw [← HIBW.out]; exact hBr.size
            have HW := Lib.hid (And.intro hW hBr)
            have hone : ∀ i, i < 1 * 1 → (([Value.slice none 0 0] : List Value).getD i undef).oneCell' = true := fun i hi => by obtain rfl : i = 0 := (by omega); rfl
            clear hW hBr
            go_upto_region 14 with (at_builtin; refine wpList_append_sl _ rfl (.tmp 92) (.tmp 93) 34 rfl ib 26 v0 _ 1 24 Tryd.underlying34 vi vy0 vy1 vy2 rfl (by omega) _ (k + 1) _ rfl hr _ 1 _ (fun i => ([Value.slice none 0 0] : List Value).getD i undef) rfl src hone (by unfold maxLen; omega) (by omega) hz ?_; intro v5 w5 hown5 hg5 _; rw [range_getD ([Value.slice none 0 0] : List Value) (1 * 1) rfl] at hown5; obtain ⟨cA2, cc2, rfl, _, _⟩ := own_sl hown5; have hb5 := HW.out.1.1.grown hg5 (row_ne HW.out.1.1 hr (by decide)); have q5 : w5.cell? ⟨gb, 0, none⟩ = some (.slice cA (k + 1) cc) := (hb5.cell 0).trans rfl; have f5 := hb5.frozen 0)
            have hW := WIn.addC HW.out.1 (show w5.ownsRow _ _ _ _ _ _ from (by rw [List.replicate_succ', ← List.cons_append]; exact hown5)) hg5
            have hBr := below_row (below_own HW.out.2 hr hg5 (Nat.le_of_eq HIBW.out) (Nat.le_refl _)) (set_only (w := w5) (g := gb) (j := 0) (.slice cA2 (k + 1 + 1) cc2)) (Nat.le_trans HW.out.2.size hg5.size) (by have := HIBW.out; omega)
            clear g0 hal src hr hz HW hone q5 f5 hb5 hg5 hown5
            generalize w5.setCell ⟨gb, 0, none⟩ (.slice cA2 (k + 1 + 1) cc2) = wn0 at hW hBr ⊢
            obtain ⟨b, off, haA, hblt, hcc⟩ := HA.out.2 (by omega)
            have hyk : wn0.cell? ⟨b, off + k, none⟩ = some (.int .u8 (Y k : Int)) := keepAt hBr hblt (hcc k hkn)
            have hY0 : (0 : Int) ≤ (Y k : Int) := by omega
            have hY9 : (Y k : Int) ≤ 255 := by have := hY k hkn; omega
            have hk9 : (k : Int) ≤ 7 := by omega
            have hw1 : IntKind.i64.wrap (1 + (k : Int)) = 1 + (k : Int) := IntWalk.i64_in _ (by omega)
            have hw2 : IntKind.i64.wrap (Y k : Int) = (Y k : Int) := IntWalk.i64_in _ (by omega)
            have hwd : Below w.heap.size w wn0.drew := hBr.drew
            have hWd := hW.drew
            have r6 := hWd.2.2.2.2.2.2.2.2.2
            have hibw := HIBW.out
            have hb2 : ib ≤ wn0.drew.heap.size := by rw [← hibw]; exact hwd.size
            have HC := Lib.hid (And.intro (And.intro ((hWd.1.cell 5).trans rfl : wn0.drew.cell? ⟨gb, 5, none⟩ = some (.slice sA k sc)) (row_ne hWd.1 r6 (by decide))) (And.intro (And.intro ((hWd.2.1.cell 14).trans (by show some (Value.slice aA an acap) = _; rw [haA]) : wn0.drew.cell? ⟨ib, 14, none⟩ = some (.slice (some ⟨b, off, none⟩) an acap)) (row_ne hWd.2.1 r6 (by decide)))
              (And.intro (show some b ≠ (Value.slice sA k sc).ownBlock from fun e => by have := own_ge r6 b e.symm; omega) (show wn0.drew.cell? ⟨b, off + k, none⟩ = some (.int .u8 (Y k : Int)) from hyk))))
            have HFZ := Lib.hid (fun W' (hg : wn0.drew.grownBy W' (Value.slice sA k sc).ownBlock) => (hWd.1.grown hg (row_ne hWd.1 r6 (by decide))).frozen 5)
            have HE := Lib.hid (fun W4 A4 c4 (hg : wn0.drew.grownBy W4 (Value.slice sA k sc).ownBlock) (hr : W4.ownsRow ib 98 2 (.slice A4 (k + 1) c4) (k + 1) (((List.range k).map fun (i : Nat) => (1 + (i : Int), (Y i : Int))).flatMap slpc ++ slpc (1 + (k : Int), (Y k : Int)))) =>
              (⟨WIn.addS (x := (1 + (k : Int), (Y k : Int))) hWd (by rw [List.flatMap_append]; simpa using hr) hg, by
                have h1 : Below w.heap.size w W4 := hwd.grown hg (Nat.le_trans (Nat.le_refl _) hwd.size) (fun k e => by have := own_ge r6 k e; omega)
                exact h1.grown (set_only _) h1.size (fun k e => by have := Option.some.inj e; omega)⟩ : WIn (W4.setCell ⟨gb, 5, none⟩ (.slice A4 (k + 1) c4)) ib gb ib (ib + 1) (inArr t c bA bn bcap mA m mcap z aA an acap) c.val t (k + 1) (k + 1) (k + 1) nb (k + 1) m bl ((List.range k).map (fun (i : Nat) => (1 + (i : Int), (Y i : Int))) ++ [(1 + (k : Int), (Y k : Int))]) ((List.range m).map fun i => .int .u32 (Z i)) (room : Int) cA2 cc2 tA2 tc2 fg2 fc2 bA' bc' (.slice mvA m mvc) A4 c4 ∧ Below w.heap.size w (W4.setCell ⟨gb, 5, none⟩ (.slice A4 (k + 1) c4))))
            have HR := Lib.hid r6
            clear hW hBr hwd hWd r6 hyk haA hcc hblt i14
            refine startG (fun W' => wn0.drew.grownBy W' (Value.slice sA k sc).ownBlock) 14 (by kernel_rfl) ?_
            generalize wn0.drew = W2 at HC HFZ HE HR hb2 ⊢
            have hg0 : W2.grownBy W2 (Value.slice sA k sc).ownBlock := World.grownBy.refl _ _
            refine takeG0 (i := 0) (v := .pointer (some ⟨gb, 5, none⟩)) rfl (by kernel_rfl) (by kernel_rfl) (by kernel_rfl) (by kernel_rfl) (fun _ _ _ h => h) (Or.inl ⟨by rfl, fun W hW => by go_simp⟩) hg0 ?_
            simp only [Act.put, List.getElem_toArray, List.getElem_cons_zero, List.getElem_cons_succ, List.setIfInBounds_toArray, List.set_cons_zero, List.set_cons_succ]
            refine takeG (i := 1) (v := .slice sA k sc) rfl (by kernel_rfl) (by kernel_rfl) (by kernel_rfl) (by kernel_rfl) (fun _ _ _ h => h) (Or.inl ⟨by rfl, fun W hW => by have q0 := cell_grown hW HC.out.1.1 HC.out.1.2; go_simp⟩) hg0 ?_
            simp only [Act.put, List.getElem_toArray, List.getElem_cons_zero, List.getElem_cons_succ, List.setIfInBounds_toArray, List.set_cons_zero, List.set_cons_succ]
            refine takeG0 (i := 2) (v := .int .i64 (k : Int)) rfl (by kernel_rfl) (by kernel_rfl) (by kernel_rfl) (by kernel_rfl) (fun _ _ _ h => h) (Or.inl ⟨by rfl, fun W hW => by go_simp⟩) hg0 ?_
            simp only [Act.put, List.getElem_toArray, List.getElem_cons_zero, List.getElem_cons_succ, List.setIfInBounds_toArray, List.set_cons_zero, List.set_cons_succ]
            refine takeG0 (i := 3) (v := .int .i64 (1 + (k : Int))) rfl (by kernel_rfl) (by kernel_rfl) (by kernel_rfl) (by kernel_rfl) (fun _ _ _ h => h) (Or.inl ⟨by rfl, fun W hW => by go_simp⟩) hg0 ?_
            simp only [Act.put, List.getElem_toArray, List.getElem_cons_zero, List.getElem_cons_succ, List.setIfInBounds_toArray, List.set_cons_zero, List.set_cons_succ]
            refine takeG0 (i := 4) (v := .pointer (some ⟨ib, 14, none⟩)) rfl (by kernel_rfl) (by kernel_rfl) (by kernel_rfl) (by kernel_rfl) (fun _ _ _ h => h) (Or.inl ⟨by rfl, fun W hW => by go_simp⟩) hg0 ?_
            simp only [Act.put, List.getElem_toArray, List.getElem_cons_zero, List.getElem_cons_succ, List.setIfInBounds_toArray, List.set_cons_zero, List.set_cons_succ]
            refine takeG (i := 5) (v := .slice (some ⟨b, off, none⟩) an acap) rfl (by kernel_rfl) (by kernel_rfl) (by kernel_rfl) (by kernel_rfl) (fun _ _ _ h => h) (Or.inl ⟨by rfl, fun W hW => by have q0 := cell_grown hW HC.out.2.1.1 HC.out.2.1.2; go_simp⟩) hg0 ?_
            simp only [Act.put, List.getElem_toArray, List.getElem_cons_zero, List.getElem_cons_succ, List.setIfInBounds_toArray, List.set_cons_zero, List.set_cons_succ]
            refine takeG0 (i := 6) (v := .int .i64 (k : Int)) rfl (by kernel_rfl) (by kernel_rfl) (by kernel_rfl) (by kernel_rfl) (fun _ _ _ h => h) (Or.inl ⟨by rfl, fun W hW => by go_simp⟩) hg0 ?_
            simp only [Act.put, List.getElem_toArray, List.getElem_cons_zero, List.getElem_cons_succ, List.setIfInBounds_toArray, List.set_cons_zero, List.set_cons_succ]
            refine takeG0 (i := 7) (v := .pointer (some ⟨b, off + k, none⟩)) rfl (by kernel_rfl) (by kernel_rfl) (by kernel_rfl) (by kernel_rfl) (fun _ _ _ h => h) (Or.inl ⟨by rfl, fun W hW => by go_simp⟩) hg0 ?_
            simp only [Act.put, List.getElem_toArray, List.getElem_cons_zero, List.getElem_cons_succ, List.setIfInBounds_toArray, List.set_cons_zero, List.set_cons_succ]
            refine takeG (i := 8) (v := .int .u8 (Y k : Int)) rfl (by kernel_rfl) (by kernel_rfl) (by kernel_rfl) (by kernel_rfl) (fun _ _ _ h => h) (Or.inl ⟨by rfl, fun W hW => by have q0 := cell_grown hW HC.out.2.2.2 HC.out.2.2.1; go_simp⟩) hg0 ?_
            simp only [Act.put, List.getElem_toArray, List.getElem_cons_zero, List.getElem_cons_succ, List.setIfInBounds_toArray, List.set_cons_zero, List.set_cons_succ]
            refine takeG0 (i := 9) (v := .int .i64 (Y k : Int)) rfl (by kernel_rfl) (by kernel_rfl) (by kernel_rfl) (by kernel_rfl) (fun _ _ _ h => h) (Or.inl ⟨by rfl, fun W hW => by go_simp⟩) hg0 ?_
            simp only [Act.put, List.getElem_toArray, List.getElem_cons_zero, List.getElem_cons_succ, List.setIfInBounds_toArray, List.set_cons_zero, List.set_cons_succ]
            refine takeG0 (i := 10) (v := .agg #[.int .i64 (1 + (k : Int)), .int .i64 (Y k : Int)]) rfl (by kernel_rfl) (by kernel_rfl) (by kernel_rfl) (by kernel_rfl) (fun _ _ _ h => h) (Or.inl ⟨by rfl, fun W hW => by go_simp⟩) hg0 ?_
            simp only [Act.put, List.getElem_toArray, List.getElem_cons_zero, List.getElem_cons_succ, List.setIfInBounds_toArray, List.set_cons_zero, List.set_cons_succ]
            refine onlyG (i := 11) (by kernel_rfl) rfl (fun K hK => ?_)
            go_simp
            have hA : W2.grownBy (W2.alloc (.cells #[.int .i64 (1 + (k : Int)), .int .i64 (Y k : Int)] 98)) (Value.slice sA k sc).ownBlock := grown_alloc (World.grownBy.refl _ _) _
            have own2 := own_below HR.out (Nat.le_refl _) ((Below.refl W2.heap.size W2).alloc (Nat.le_refl _) (.cells #[.int .i64 (1 + (k : Int)), .int .i64 (Y k : Int)] 98))
            have src := sl_new W2 98 (slpc (1 + (k : Int), (Y k : Int)))
            refine hK.out _ _ hA (fun _ => ?_)
            clear hK K
            try simp only [Act.put, List.getElem_toArray, List.getElem_cons_zero, List.getElem_cons_succ, List.setIfInBounds_toArray, List.set_cons_zero, List.set_cons_succ]
            refine onlyG (i := 12) (by kernel_rfl) rfl (fun K hK => ?_)
            rw [if_pos (by rfl)]
            refine wp_append_sl _ (.tmp 97) (.tmp 107) 37 rfl ib 98 u0 _ 2 16 Tryd.underlying37 ui uy0 uy1 uy2 rfl (by omega) _ k _ rfl own2 _ 1 _ (fun i => (slpc (1 + (k : Int), (Y k : Int))).getD i undef) rfl src (slpc_one _) (by unfold maxLen; omega) (by omega) (by simp; omega) ?_
            intro v4 W4 own4 hg4 _
            rw [range_getD (slpc (1 + (k : Int), (Y k : Int))) (1 * 2) rfl] at own4
            have hg4' := grown_trans' hA hg4
            obtain ⟨A4, c4, rfl, _, _⟩ := own_sl own4
            have y6 := cell_grown hg4' HC.out.1.1 HC.out.1.2
            have f6 := HFZ.out _ hg4'
            have HF := Lib.hid (HE.out W4 A4 c4 hg4' own4)
            refine hK.out _ _ hg4' (fun _ => ?_)
            clear hK K hg4 own2 src hA own4
            try simp only [Act.put, List.getElem_toArray, List.getElem_cons_zero, List.getElem_cons_succ, List.setIfInBounds_toArray, List.set_cons_zero, List.set_cons_succ]
            refine takeG0 (i := 13) (v := .pointer (some ⟨gb, 5, none⟩)) rfl (by kernel_rfl) (by kernel_rfl) (by kernel_rfl) (by kernel_rfl) (fun _ _ _ h => h) (Or.inl ⟨by rfl, fun W hW => by go_simp⟩) hg4' ?_
            simp only [Act.put, List.getElem_toArray, List.getElem_cons_zero, List.getElem_cons_succ, List.setIfInBounds_toArray, List.set_cons_zero, List.set_cons_succ]
            refine lastG (by kernel_rfl) rfl (by kernel_rfl) (fun K hK => ?_)
            go_simp
            refine hK.out _ _ ?_
            clear hK K y6 f6 hg4'
            go_wp2
            go_roundw
            case rel => exact ⟨k + 1, cA2, cc2, tA2, tc2, fg2, fc2, A4, c4, by omega, by go_num, by rw [List.range_succ, List.map_append, List.map_cons, List.map_nil]; exact HF.out.1, HF.out.2⟩
            case measure => simp [intOf]; omega
          · obtain rfl : an = k := by omega
            have hk1 : ¬ (an : Int) < (an : Int) := by omega
            have HF := Lib.hid (And.intro hW hBr)
            have hgB := hW.1
            have hrB := hW.2.2.1
            have hngr := hW.2.2.2.1
            clear hW hBr
            go_wp2_with (first
              | (refine wpList_load_row rfl 40 (.tmp 3) rfl _ rfl 40 #[.slice cA (an + 1) cc, .slice tA (an + 1) tc, .slice (some ⟨fg, 0, none⟩) (an + 1) fc, .slice mvA m mvc, .int .i64 (room : Int), .slice sA an sc, .slice none 0 0, .bool false] (0, 0) _ hgB Tryd.underlying40 rfl wor_info ?_)
              | (refine wpList_store_row rfl 40 (.tmp 2) (.tmp 110) rfl _ rfl #[.slice cA (an + 1) cc, .slice tA (an + 1) tc, .slice (some ⟨fg, 0, none⟩) (an + 1) fc, .slice mvA m mvc, .int .i64 (room : Int), .slice sA an sc, .slice none 0 0, .bool false] rfl 40 wZ hrB rfl wor_info (by simp [Value.oneCell']) ?_; intro W9 hb9 hg9))
            exact bodyPost_ret (results_cell Tryd.results16 _ _ _ _ rfl (run_row _ _ _ _ _ _ hb9 Tryd.underlying40 rfl wor_info)) rfl (by
              obtain ⟨⟨h1, h2, h3, hne, r1, r2, r3, r4, r5, r6⟩, hBr⟩ := HF.out
              have hib := HIBW.out
              have kp : ∀ {e : TypeId} {size n : Nat} {v : Value} {xs : List Value}, wr.ownsRow ib e size v n xs → 40 ≠ e → W9.ownsRow w.heap.size e size v n xs := fun h hn => by rw [hib]; exact row_grown h hg9 (row_ne h3 h hn)
              obtain rfl : room = 1 + z % 16 := by have := HRR.out; omega
              exact ⟨nb, cA, cc, tA, tc, fg, fc, bA', bc', mvA, mvc, sA, sc, rfl, by rw [HBL2.out.1]; exact HBL2.out.2.symm, kp r1 (by decide), kp r2 (by decide), kp r3 (by decide), by rw [HBL2.out.1]; exact kp r4 (by decide), kp r5 (by decide), kp r6 (by decide), below_row hBr hg9 hBr.size (by omega)⟩)
end Go.Proofs.YtjmnogpnjombgaaDoor
