/- BufKeeps returns true for every room, every row of entries and every entry, and leaves old memory as it was. -/
import Derived.Test.YtaanmamgmjhegaaBufRefD
namespace Go.Proofs.Ytaanmamgmjhegaa
open Go.ChangeShapes Go.WideShapes Go.ChangeAt Go.RowKit Go.Deep
set_option linter.unusedVariables false
set_option linter.unusedSimpArgs false

theorem sl_make (w : World) (t : TypeId) (n : Nat) : Sl (w.alloc (.cells (madeCells #[.int .u32 0] n) t)) (some ⟨w.heap.size, 0, none⟩) n (fun _ => .int .u32 0) := fun hp =>
  ⟨w.heap.size, 0, rfl, (Blk.new w t _).lt, fun i hi => by
    rw [Nat.zero_add, (Blk.new w t _).cell]
    simp [madeCells, hi, Nat.mod_one]⟩
/-- What a buffer of room r holds behind k entries. -/
theorem keep_put (E : Nat → Ent) (r k : Nat) (ok : Bool) (h : decide ((((entL E k).take r).length : Int) < (r : Int)) = ok) : (if ok = true then (entL E k).take r ++ [E k] else (entL E k).take r) = (entL E (k + 1)).take r := by
  have hlen : ((entL E k).take r).length = min r k := by simp [entL_length]
  rw [hlen] at h
  rw [entL_succ]
  by_cases hk : k < r
  · rw [decide_eq_true (by omega)] at h
    subst h
    rw [if_pos rfl, List.take_of_length_le (by rw [entL_length]; omega), List.take_of_length_le (by simp [entL_length]; omega)]
  · rw [decide_eq_false (by omega)] at h
    subst h
    rw [if_neg (by simp), List.take_append_of_le_length (by rw [entL_length]; omega)]

set_option maxRecDepth 100000 in
theorem bufKeeps_long (z : Value) (A : Option Addr) (len cap : Nat) (x : Ent) (hl : 300 < len) (hm : len ≤ maxLen) (w : World) :
    Calls Try.prog 6 #[z, .slice A len cap, .agg #[.int .i64 x.1, .int .u32 x.2]] w fun e w' => e = .returned (.bool true) ∧ Below w.heap.size w w' := by
  unfold maxLen at hm
  have hl' : (300 : Int) < (len : Int) := by omega
  have hB0 := (Below.refl w.heap.size w).alloc (Nat.le_refl _) (Obj.cells #[.int .i64 x.1, .int .u32 x.2] 26)
  go_enter Try.func6, Try.ntmps6
  go_wp2_with fail
  refine (awake05_any _).mono ?_
  rintro e' w1 ⟨rfl, hb1⟩
  go_wp2_with fail
  refine (awake05_any _).mono ?_
  rintro e' w2 ⟨rfl, hb2⟩
  go_wp2
  go_ret
  exact ⟨rfl, step_below (step_below hB0 hb1) hb2⟩

set_option maxRecDepth 100000 in
set_option maxHeartbeats 8000000 in
theorem bufKeeps_true (z : Int) (hz0 : 0 ≤ z) (hz1 : z ≤ 255) (A : Option Addr) (len cap : Nat) (E : Nat → Ent) (hl : len ≤ 300) (x : Ent) (w : World) (hs : SlE w A len 2 (fun i => entV (E i))) :
    Calls Try.prog 6 #[.int .u8 z, .slice A len cap, .agg #[.int .i64 x.1, .int .u32 x.2]] w fun e w' => e = .returned (.bool true) ∧ Below w.heap.size w w' := by
  obtain ⟨r, hr⟩ : ∃ r : Nat, 1 + z % 16 = (r : Int) := ⟨(1 + z % 16).toNat, by omega⟩
  have hr1 : 1 ≤ r := by omega
  have hr2 : r ≤ 16 := by omega
  have hE := empty_buf 0 (by decide) (by decide)
  have hn0 := empty_buf (r : Int) (by omega) (by omega)
  have cN := new_any (r : Int)
  rw [if_pos (by omega), if_pos (by omega)] at cN
  generalize emptyCells (r : Int) = cs0 at hn0 cN
  have HR := Lib.hid hr
  obtain ⟨M, hM⟩ : ∃ M, madeCells #[Value.int .u32 0] 20 = M := ⟨_, rfl⟩
  have hmk : ∀ w : World, (Instr.makeSlice 49 (.int .i64 20) (.int .i64 20)).run Try.prog w = .ok (.slice (some ⟨w.heap.size, 0, none⟩) 20 20) (w.alloc (.cells M 24)) := fun w => hM ▸ run_make_words 20 (by omega) w
  have hslm := fun W : World => sl_make W 24 20
  rw [hM] at hslm
  clear hM
  have hB00 := (Below.refl w.heap.size w).alloc (Nat.le_refl _) (Obj.cells #[.int .i64 x.1, .int .u32 x.2] 26)
  have hx0 := Blk.new w 26 #[.int .i64 x.1, .int .u32 x.2]
  have HS := Lib.hid (hs.step hB00)
  rw [← hr] at cN
  have HM := Lib.hid hmk
  clear hs hr hmk
  go_enter Try.func6, Try.ntmps6
  go_upto_region 1 with fail
  generalize w.alloc (Obj.cells #[.int .i64 x.1, .int .u32 x.2] 26) = w0 at hB00 hx0 HS ⊢
  have hx0l := hx0.lt
  go_wp2_with fail
  refine (awake05_any _).mono ?_
  rintro e' w1 ⟨rfl, hb1⟩
  go_wp2_with fail
  refine (cN _).mono ?_
  rintro e' w2 ⟨rfl, hb2⟩
  have hB2 := step_below hb1 hb2
  clear hb1 hb2 cN
  go_wp2_with (refine wpList_store_row rfl 29 (.tmp 7) (.tmp 27) rfl _ rfl cs0 rfl 29 (emptyCells 0) (Blk.new _ _ _) (hE.sizeE hn0) hn0.info hn0.all ?_; intro w3 hb3 hg3; have hB3 := below_row (hB2.alloc hB2.size _) hg3 (by have := hB2.size; simp; omega) hB2.size)
  have hgB := hB2.size
  generalize w2.heap.size = gb at hb3 hgB ⊢
  clear hB2 hg3
  go_loopw [9] (fun v wr => ∃ (k : Nat) (cs : Array Value), k ≤ len ∧ v = .int .i64 k ∧ Buf cs ((entL E k).take r) r ∧ Blk wr gb 29 cs ∧ Below w0.heap.size w0 wr) (fun v _ => len - (intOf v).toNat)
  case atStart => exact ⟨0, cs0, Nat.zero_le _, rfl, by simpa [entL] using hn0, hb3, hB3⟩
  case round =>
    clear hb3 hB3 hn0
    obtain ⟨k, cs, hk, rfl, hbuf, hbr, hBr⟩ := hrel
    by_cases hkl : k < len
    · obtain ⟨b, off, rfl, hbB, hcc⟩ := HS.out (by omega)
      have c0 : wr.cell? ⟨b, off + k * 2, none⟩ = some (.int .i64 (E k).1) := keepAt hBr hbB (hcc k hkl 0 _ rfl)
      have c1 : wr.cell? ⟨b, off + k * 2 + 1, none⟩ = some (.int .u32 (E k).2) := keepAt hBr hbB (hcc k hkl 1 _ rfl)
      have hbW : b < wr.heap.size := Nat.lt_of_lt_of_le hbB hBr.size
      obtain ⟨ok, hok⟩ : ∃ ok, decide ((((entL E k).take r).length : Int) < (r : Int)) = ok := ⟨_, rfl⟩
      have cP := put_any cs _ r hbuf (E k) (by omega) ok hok
      rw [keep_put E r k ok hok] at cP
      have hk0 : (0 : Int) ≤ (k : Int) := by omega
      have hk1 : (k : Int) < (len : Int) := by omega
      clear hcc hok
      go_upto_region 7 with fail
      have hH0 : Blk wr.drew gb 29 cs ∧ wr.drew.cell? ⟨b, off + k * 2, none⟩ = some (.int .i64 (E k).1) ∧ wr.drew.cell? ⟨b, off + k * 2 + 1, none⟩ = some (.int .u32 (E k).2) := ⟨hbr, c0, c1⟩
      refine startG (fun W' => Blk W' gb 29 cs ∧ W'.cell? ⟨b, off + k * 2, none⟩ = some (.int .i64 (E k).1) ∧ W'.cell? ⟨b, off + k * 2 + 1, none⟩ = some (.int .u32 (E k).2)) 9 (by kernel_rfl) ?_
      have hBd := hBr.drew
      have hgl : gb < wr.drew.heap.size := hbr.lt
      have hbl : b < wr.drew.heap.size := hbW
      clear c0 c1 hbr hBr
      generalize wr.drew = W1 at hH0 hBd hgl hbl
      refine takeG (i := 0) (v := .agg cs) rfl (by kernel_rfl) (by kernel_rfl) (by kernel_rfl) (by kernel_rfl) (fun _ _ _ h => h) (yields_row (by rfl) 29 (.tmp 7) rfl gb rfl cs (fun _ hS => run_buf hbuf hS.1)) hH0 ?_
      try simp only [Act.put, List.setIfInBounds_toArray, List.set_cons_zero, List.set_cons_succ]
      refine takeG (i := 1) (v := .slice (some ⟨b, off, none⟩) len cap) rfl (by kernel_rfl) (by kernel_rfl) (by kernel_rfl) (by kernel_rfl) (fun _ _ _ h => h) (Or.inl ⟨by rfl, fun W hW => by go_simp⟩) hH0 ?_
      try simp only [Act.put, List.setIfInBounds_toArray, List.set_cons_zero, List.set_cons_succ]
      refine takeG (i := 2) (v := .int .i64 (k : Int)) rfl (by kernel_rfl) (by kernel_rfl) (by kernel_rfl) (by kernel_rfl) (fun _ _ _ h => h) (Or.inl ⟨by rfl, fun W hW => by go_simp⟩) hH0 ?_
      try simp only [Act.put, List.setIfInBounds_toArray, List.set_cons_zero, List.set_cons_succ]
      refine takeG (i := 3) (v := .pointer (some ⟨b, off + k * 2, none⟩)) rfl (by kernel_rfl) (by kernel_rfl) (by kernel_rfl) (by kernel_rfl) (fun _ _ _ h => h) (Or.inl ⟨by rfl, fun W hW => by go_simp⟩) hH0 ?_
      try simp only [Act.put, List.setIfInBounds_toArray, List.set_cons_zero, List.set_cons_succ]
      refine takeG (i := 4) (v := .agg #[.int .i64 (E k).1, .int .u32 (E k).2]) rfl (by kernel_rfl) (by kernel_rfl) (by kernel_rfl) (by kernel_rfl) (fun _ _ _ h => h) (Or.inl ⟨by rfl, fun W hW => by obtain ⟨_, q0, q1⟩ := hW; go_simp⟩) hH0 ?_
      try simp only [Act.put, List.setIfInBounds_toArray, List.set_cons_zero, List.set_cons_succ]
      refine onlyG (i := 5) (by kernel_rfl) rfl (fun K hK => ?_)
      go_simp
      refine (cP _).mono ?_
      rintro e W2 ⟨cs2, h2, rfl, hb2⟩
      go_wp2_with fail
      have hH2 := keepS hb2 hgl hbl hH0
      have hB2 := step_below hBd hb2
      refine hK.out _ _ hH2 (fun _ => ?_)
      clear hK K
      try simp only [Act.put, List.setIfInBounds_toArray, List.set_cons_zero, List.set_cons_succ]
      refine takeG (i := 6) (v := .tuple #[.agg cs2, .bool ok]) rfl (by kernel_rfl) (by kernel_rfl) (by kernel_rfl) (by kernel_rfl) (fun _ _ _ h => h) (Or.inl ⟨by rfl, fun W hW => by go_simp⟩) hH2 ?_
      try simp only [Act.put, List.setIfInBounds_toArray, List.set_cons_zero, List.set_cons_succ]
      refine takeG (i := 7) (v := .agg cs2) rfl (by kernel_rfl) (by kernel_rfl) (by kernel_rfl) (by kernel_rfl) (fun _ _ _ h => h) (Or.inl ⟨by rfl, fun W hW => by go_simp⟩) hH2 ?_
      try simp only [Act.put, List.setIfInBounds_toArray, List.set_cons_zero, List.set_cons_succ]
      refine takeG0 (i := 8) (v := .bool ok) rfl (by kernel_rfl) (by kernel_rfl) (by kernel_rfl) (by kernel_rfl) (fun _ _ _ h => h) (Or.inl ⟨by rfl, fun W hW => by go_simp⟩) hH2 ?_
      try simp only [Act.put, List.setIfInBounds_toArray, List.set_cons_zero, List.set_cons_succ]
      refine lastG (by kernel_rfl) rfl (by kernel_rfl) (fun K hK => ?_)
      refine step_store_row rfl 29 (.tmp 7) (.tmp 42) rfl _ rfl cs2 rfl 29 cs hH2.1 (hbuf.sizeE h2) h2.info h2.all ?_
      intro W5 hb5 hg5
      have hB5 := below_row hB2 hg5 hB2.size hgB
      refine hK.out _ _ ?_
      clear hK K
      go_wp2_with fail
      go_roundw
      case rel => exact ⟨k + 1, cs2, by omega, by go_num, h2, hb5, hB5⟩
      case measure => simp [intOf]; omega
    · obtain rfl : len = k := by omega
      have hkl' : ¬ (len : Int) < (len : Int) := by omega
      have hLr : ((entL E len).take r).length = min r len := by simp [entL_length]
      generalize (entL E len).take r = L at hbuf hLr
      have HLr := Lib.hid hLr
      have hL16 := hbuf.le
      have cE := entries_any cs L r hbuf
      clear hLr
      go_wp2_with (refine wpList_load_row rfl 29 (.tmp 7) rfl _ rfl 29 cs (0, 0) _ hbr Try.underlying29 rfl hbuf.info ?_)
      refine (cE _).mono ?_
      rintro e' w4 ⟨v1, rfl, hown1, hb4⟩
      obtain ⟨A1, c1, rfl, hc1, hes4⟩ := ents_own (gb := gb) L hown1 (by have := hbr.lt; omega)
      have hB4 := step_below hBr hb4
      have hbr4 := hbr.below hb4 hbr.lt
      clear hBr hbr hb4 hown1
      have hx4 := hx0.below hB4 hx0l
      have x0 := hx4.cell 0
      have x1 := hx4.cell 1
      simp only [List.getElem?_toArray, List.getElem?_cons_zero, List.getElem?_cons_succ] at x0 x1
      obtain ⟨ok, hok⟩ : ∃ ok, decide ((L.length : Int) < (r : Int)) = ok := ⟨_, rfl⟩
      have cP := put_any cs L r hbuf x (by omega) ok hok
      clear hok hx4
      go_wp2_with (refine wpList_load_row rfl 29 (.tmp 7) rfl _ rfl 29 cs (0, 0) _ hbr4 Try.underlying29 rfl hbuf.info ?_)
      refine (cP _).mono ?_
      rintro e' w5 ⟨cs5, _, rfl, hb5⟩
      have hB5 := step_below hB4 hb5
      have hbr5 := hbr4.below hb5 hbr4.lt
      have hes5 := hes4.below hb5
      clear hB4 hbr4 hes4 hb5 x0 x1 cP
      have cQ : ∀ w, Calls Try.prog 14 #[.agg cs] w fun e w' => ∃ v, e = .returned v ∧ Below w.heap.size w w' := fun w => by
        rcases L with _ | ⟨y, t⟩
        · exact (pop_none cs r hbuf w).mono fun e w' ⟨he, hb⟩ => ⟨_, he, hb⟩
        · exact (pop_some cs y t r hbuf w).mono fun e w' ⟨_, _, he, hb⟩ => ⟨_, he, hb⟩
      go_wp2_with (refine wpList_load_row rfl 29 (.tmp 7) rfl _ rfl 29 cs (0, 0) _ hbr5 Try.underlying29 rfl hbuf.info ?_)
      refine (cQ _).mono ?_
      rintro e' w6 ⟨v6, rfl, hb6⟩
      have hBr := step_below hB5 hb6
      have hbr := hbr5.below hb6 hbr5.lt
      have hes := hes5.below hb6
      clear hB5 hbr5 hes5 hb6 cQ
      go_upto_region 11 with fail
      obtain ⟨wc, hwc⟩ : ∃ wc, wc = w6 := ⟨_, rfl⟩
      rw [← hwc] at hBr hbr hes ⊢
      clear hwc
      have hmk := HM.out
      go_cut [53] (fun s wx => Blk wx gb 29 cs ∧ EntS wx gb A1 L ∧ Below w0.heap.size w0 wx)
      case first =>
        have hb0 := hbr.drew
        have hB0 := hBr.drew
        have hg0 : gb < wc.drew.heap.size := hbr.lt
        have he0 : EntS wc.drew gb A1 L := hes
        clear hbr hBr hes
        refine startG (fun W' => Below wc.drew.heap.size wc.drew W') 2 (by kernel_rfl) ?_
        generalize wc.drew = W0 at hb0 hB0 hg0 he0
        have hH := Below.refl W0.heap.size W0
        refine takeG (i := 0) (v := .agg cs) rfl (by kernel_rfl) (by kernel_rfl) (by kernel_rfl) (by kernel_rfl) (fun _ _ _ h => h) (yields_row (by rfl) 29 (.tmp 7) rfl gb rfl cs (fun _ hS => run_buf hbuf (hb0.below hS hg0))) hH ?_
        try simp only [Act.put, List.setIfInBounds_toArray, List.set_cons_zero, List.set_cons_succ]
        refine onlyG (i := 1) (by kernel_rfl) rfl (fun K hK => ?_)
        go_simp
        have hsl := hslm W0
        have hA := hH.alloc hH.size (Obj.cells M 24)
        refine hK.out _ _ hA (fun _ => ?_)
        clear hK K
        try simp only [Act.put, List.setIfInBounds_toArray, List.set_cons_zero, List.set_cons_succ]
        refine lastG (by kernel_rfl) rfl (by kernel_rfl) (fun K hK => ?_)
        go_simp
        refine (drain_any cs _ _ hbuf _ 20 20 (fun _ => 0) (by decide) _ hsl).mono ?_
        rintro e W2 ⟨g2, cs2, D2, _, rfl, _, _, _, _, hb2⟩
        go_wp2_with fail
        have hA2 := step_below hA hb2
        refine hK.out _ _ ?_
        clear hK K
        go_wp2_with fail
        go_meet
        case rel => exact ⟨hb0.below hA2 hg0, he0.below hA2, step_below hB0 hA2⟩
      case rest =>
        clear hBr hbr hes hmk
        obtain ⟨hbr, hes, hBr⟩ := hcut
        obtain ⟨i0, hi, hz0, hz1, hz2⟩ := info_parts entry_info
        have hgl := hbr.lt
        go_wp2_with (refine wpList_load_row rfl 29 (.tmp 7) rfl _ rfl 29 cs (0, 0) _ hbr Try.underlying29 rfl hbuf.info ?_)
        refine (cE _).mono ?_
        rintro e' w7 ⟨v2, rfl, hown2, hb7⟩
        obtain ⟨A2, c2, rfl, hc2, hg2⟩ : ∃ A2 c2, v2 = .slice A2 L.length c2 ∧ L.length ≤ c2 ∧ (0 < L.length → ∃ g cur, A2 = some ⟨g, 0, none⟩ ∧ wc.heap.size ≤ g ∧ Blk w7 g 26 cur ∧ L.length * 2 ≤ cur.size) := by
          rcases hown2.2 with ⟨rfl, hx⟩ | ⟨g, cap2, cur, rfl, hgg, hh, hn, _, hs2, _⟩
          · have : L = [] := by simpa [entV] using hx
            subst this
            exact ⟨none, 0, rfl, Nat.le_refl _, fun h => absurd h (by simp)⟩
          · exact ⟨some ⟨g, 0, none⟩, cap2, rfl, hn, fun _ => ⟨g, cur, rfl, by omega, hh, by rw [hs2]; exact Nat.mul_le_mul_right 2 hn⟩⟩
        clear hown2
        go_wp2_with fail
        go_loopw [12] (fun v wr => ∃ k : Nat, k ≤ L.length ∧ v = .int .i64 k ∧ Below wc.heap.size wc wr ∧ (0 < L.length → ∃ g cur, A2 = some ⟨g, 0, none⟩ ∧ wc.heap.size ≤ g ∧ Blk wr g 26 cur ∧ L.length * 2 ≤ cur.size)) (fun v _ => L.length - (intOf v).toNat)
        case atStart => exact ⟨0, Nat.zero_le _, rfl, hb7, hg2⟩
        case round =>
          clear hb7 hg2
          obtain ⟨k, hk, rfl, hbx, hgx⟩ := hrel
          by_cases hkl : k < L.length
          · obtain ⟨g, cur, rfl, hgw, hqg, hcs⟩ := hgx (by omega)
            have hex : ∀ j, j < 2 → ∃ v, cur[k * 2 + j]? = some v := fun j hj => ⟨_, Array.getElem?_eq_getElem (by omega)⟩
            obtain ⟨u0, hu0⟩ := hex 0 (by decide)
            obtain ⟨u1, hu1⟩ := hex 1 (by decide)
            rw [Nat.add_zero] at hu0
            have y0 := (hqg.cell (k * 2)).trans hu0
            have y1 := (hqg.cell (k * 2 + 1)).trans hu1
            have z0 := hqg.frozen (k * 2)
            have z1 := hqg.frozen (k * 2 + 1)
            have hk0 : (0 : Int) ≤ (k : Int) := by omega
            have hk1 : (k : Int) < (L.length : Int) := by omega
            have HC := Lib.hid hcs
            clear hex hu0 hu1 hgx hcs
            go_wp2_with fail
            go_roundw
            case rel => exact ⟨k + 1, by omega, by go_num, (hbx.setCell hgw _).setCell hgw _, fun _ => ⟨g, _, rfl, hgw, (hqg.set_ (k * 2) _).set_ (k * 2 + 1) _, by simpa using HC.out⟩⟩
            case measure => simp [intOf]; omega
          · have hkk : k = L.length := by omega
            have hk1 : ¬ (k : Int) < (L.length : Int) := by omega
            have hbr9 := hbr.below hbx hgl
            have hes9 := hes.below hbx
            have hB9 := step_below hBr hbx
            clear hgx hbr hes hBr hkk
            go_wp2_with (refine wpList_load_row rfl 29 (.tmp 7) rfl _ rfl 29 cs (0, 0) _ hbr9 Try.underlying29 rfl hbuf.info ?_)
            refine (cE _).mono ?_
            rintro e' w10 ⟨v3, rfl, hown3, hb10⟩
            obtain ⟨A3, c3, rfl, hc3, hs3⟩ := own_sle entV (fun _ => rfl) (0, 0) L hown3
            have hes10 := (hes9.below hb10).sle
            have hB10 := step_below hB9 hb10
            clear hown3 hes9 hb10 hB9
            go_wp2_with fail
            refine (same_yes _ _ _ _ _ (fun i => L.getD i (0, 0)) (by omega) _ hs3 hes10).mono ?_
            rintro e' w11 ⟨rfl, q, rfl⟩
            have hlen : L.length = min r len := HLr.out
            have hres : ((L.length : Int) == (if 1 + z % 16 < (len : Int) then 1 + z % 16 else (len : Int))) = true := by
              rw [beq_iff_eq, HR.out, hlen]
              split <;> omega
            clear hlen
            go_wp2_with fail
            all_goals
              go_ret
              have hB11 := step_below hB00 hB10
              exact ⟨rfl, ⟨hB11.os, hB11.tape, hB11.output, hB11.size, hB11.block⟩⟩
set_option maxRecDepth 100000 in
theorem bufKeeps_lifted (os : Os) (started : os.Started) (H : Type) (enc : TypeId × Value → H) :
    ReturnsInHanded {} Try.checked os 6 .any (Rows.bufKeepsSpec.pre6 enc Try.prog Try.f6 Rows.bufKeepsRow.domain false) (Rows.bufKeepsSpec.post enc Try.prog Try.f6 false true false false) := by
  refine law_lifted started (by kernel_rfl) Try.func6
    (ChangeSpec.witness6 (enc := enc) (C := Try.checked) false ⟨#[], #[.int .u8 0, .slice none 0 0, .agg #[.int .i64 0, .int .u32 0]], []⟩ 8 (by kernel_rfl) (by kernel_rfl) (by kernel_rfl) (by kernel_rfl))
    4 rfl (by kernel_rfl) Try.underlying4 (fun ds h => ?_) (by kernel_rfl) ?_
  · rw [show Try.f6.params.size = 3 from by kernel_rfl] at h
    match ds, h with
    | [_, _, _], _ => rfl
  intro W base args ds p hval hA hlt hsz
  rw [Try.params6] at hA hval hsz
  obtain ⟨v0, v1, v2, d0, d1, d2, p0, p1, p2, rfl, rfl, rfl, h0, h1, h2⟩ := trodAll_three hA
  obtain ⟨z, rfl, rfl, rfl, wz⟩ := open_int Try.underlying5 (hval 0 5 v0 rfl rfl) h0
  obtain ⟨A, len, cap, E, rfl, hlc, hcm, hs, ho⟩ := open_ents (hval 1 22 v1 rfl rfl) h1
  obtain ⟨cx, rfl, _⟩ := okWide_struct Try.underlying26 (hval 2 26 v2 rfl rfl)
  obtain ⟨fuel, hf⟩ := h2
  obtain ⟨cl⟩ := cx
  obtain ⟨x, ex, _⟩ := elem_ent _ _ _ hf
  have ex' : cl = entV x := by simpa [Value.cells] using ex
  subst ex'
  have hz := bounds_u8 wz
  by_cases hl : len ≤ 300
  · exact bufKeeps_true z hz.1 hz.2 A len cap E hl x W hs
  · exact bufKeeps_long _ A len cap x (by omega) (by omega) W

theorem bufKeeps_holds : Rows.BufKeepsSaid :=
  OpenClaim.holds_of_wide 6 Try.f6 rfl rfl rfl rfl rfl rfl rfl ⟨rfl, rfl, rfl, rfl, rfl⟩ rfl rfl rfl rfl rfl (by kernel_rfl) Try.func6 (by kernel_rfl)
    (of_decide_eq_true (by kernel_rfl)) (by unfold Func.isWrapper; first | (rw [if_pos (by decide +kernel)]; kernel_rfl) | (rw [if_neg (by decide +kernel)]; exact ⟨rfl, rfl⟩))
    (fun os started H enc _ => bufKeeps_lifted os started H enc)

end Go.Proofs.Ytaanmamgmjhegaa
