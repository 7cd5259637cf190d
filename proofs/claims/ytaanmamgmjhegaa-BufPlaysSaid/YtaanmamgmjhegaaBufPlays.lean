/- BufPlays returns true whatever befalls a buffer: the walk. -/
import Derived.Test.YtaanmamgmjhegaaBufPlay
namespace Go.Proofs.Ytaanmamgmjhegaa
open Go.ChangeShapes Go.WideShapes Go.ChangeAt Go.RowKit Go.Deep
set_option linter.unusedVariables false
set_option linter.unusedSimpArgs false

set_option maxRecDepth 100000 in
set_option maxHeartbeats 8000000 in
theorem bufPlays_true (room : Int) (hr1 : 1 ≤ room) (hr2 : room ≤ 16) (A0 : Option Addr) (n ncap : Nat) (F : Nat → Bool × Ent) (addr : Int) (hl : n ≤ 300) (w : World) (hs : SlE w A0 n 3 (fun i => actV (F i))) :
    Calls Try.prog 4 #[.int .i64 room, .slice A0 n ncap, .int .i64 addr] w fun e w' => e = .returned (.bool true) ∧ Below w.heap.size w w' := by
  have hE := empty_buf 0 (by decide) (by decide)
  have hn0 := empty_buf room (by omega) (by omega)
  have cN := new_any room
  rw [if_pos ⟨hr1, hr2⟩, if_pos ⟨hr1, hr2⟩] at cN
  generalize emptyCells room = cs0 at hn0 cN
  have HS := Lib.hid hs
  clear hs
  go_enter Try.func4, Try.ntmps4
  go_wp2_with fail
  refine (awake05_any _).mono ?_
  rintro e' w1 ⟨rfl, hb1⟩
  go_wp2_with fail
  refine (cN _).mono ?_
  rintro e' w2 ⟨rfl, hb2⟩
  have hB2 := step_below hb1 hb2
  clear hb1 hb2 cN
  go_wp2_with (refine wpList_store_row rfl 29 (.tmp 7) (.tmp 31) rfl _ rfl cs0 rfl 29 (emptyCells 0) (Blk.new _ _ _) (hE.sizeE hn0) hn0.info hn0.all ?_; intro w3 hb3 hg3; have hB3 := below_row (hB2.alloc hB2.size _) hg3 (by have := hB2.size; simp; omega) hB2.size)
  have hgB := hB2.size
  generalize w2.heap.size = gb at hb3 hgB ⊢
  clear hB2 hg3
  go_loopw [9, 10] (fun s v wr => ∃ (k : Nat) (cs : Array Value) (l : List Ent) (A : Option Addr) (cap : Nat), k ≤ n ∧ v = .int .i64 k ∧ Play w wr gb room s cs l A cap) (fun _ v _ => n - (intOf v).toNat)
  case atStart => exact ⟨0, cs0, [], none, 0, Nat.zero_le _, rfl, rfl, Nat.le_refl _, hn0, by simp; omega, EntS.nil, hb3, hB3⟩
  case round =>
    clear hb3 hB3 hn0
    obtain ⟨k, cs, l, A, cap, hk, rfl, rfl, hc, hbuf, hlr, hes, hbr, hBr⟩ := hrel
    have hl16 := hbuf.le
    by_cases hkn : k < n
    · obtain ⟨b, off, rfl, hbB, hcc⟩ := HS.out (by omega)
      have cp : wr.cell? ⟨b, off + k * 3, none⟩ = some (.bool (F k).1) := keepAt hBr hbB (hcc k hkn 0 _ rfl)
      have c0 : wr.cell? ⟨b, off + k * 3 + 1, none⟩ = some (.int .i64 (F k).2.1) := keepAt hBr hbB (hcc k hkn 1 _ rfl)
      have c1 : wr.cell? ⟨b, off + k * 3 + 2, none⟩ = some (.int .u32 (F k).2.2) := keepAt hBr hbB (hcc k hkn 2 _ rfl)
      have hbW : b < wr.heap.size := Nat.lt_of_lt_of_le hbB hBr.size
      have hk0 : (0 : Int) ≤ (k : Int) := by omega
      have hk1 : (k : Int) < (n : Int) := by omega
      have hcc0 : w.cell? ⟨b, off + k * 3 + 1, none⟩ = some (.int .i64 (F k).2.1) ∧ w.cell? ⟨b, off + k * 3 + 2, none⟩ = some (.int .u32 (F k).2.2) := ⟨hcc k hkn 1 _ rfl, hcc k hkn 2 _ rfl⟩
      have HK := Lib.hid hcc0
      clear hcc hcc0
      go_upto_if 62 with fail
      go_cut [9] (fun s wx => ∃ (cs : Array Value) (l : List Ent) (A : Option Addr) (cap : Nat), Play w wx gb room s cs l A cap)
      case first =>
        cases hp : (F k).1
        · have cP := put_any cs l room hbuf (F k).2 hr2 _ rfl
          obtain ⟨ok, hok⟩ : ∃ ok, decide ((l.length : Int) < room) = ok := ⟨_, rfl⟩
          rw [hok] at cP
          have HOK := Lib.hid hok
          rw [hp] at cp
          clear hp hok cp
          go_upto_region 19 with fail
          go_cut [14, 15] (fun s t wx => ∃ (gx : Nat) (cs2 : Array Value), s = .pointer (some ⟨gx, 0, none⟩) ∧ t = .bool ok ∧ gb < gx ∧ Buf cs2 (if ok = true then l ++ [(F k).2] else l) room ∧ Blk wx gx 29 cs2 ∧ Blk wx gb 29 cs ∧ EntS wx gb A l ∧ Below w.heap.size w wx)
          case first =>
            have hB0 := hBr.drew
            have hb0 : Blk wr.drew gb 29 cs := hbr
            have c0d : wr.drew.cell? ⟨b, off + k * 3 + 1, none⟩ = some (.int .i64 (F k).2.1) := c0
            have c1d : wr.drew.cell? ⟨b, off + k * 3 + 2, none⟩ = some (.int .u32 (F k).2.2) := c1
            have hes0 : EntS wr.drew gb A l := hes
            have hgl : gb < wr.drew.heap.size := hbr.lt
            have hbl : b < wr.drew.heap.size := hbW
            clear c0 c1 hbr hBr hes
            refine startG (fun W' => Below wr.drew.heap.size wr.drew W') 12 (by kernel_rfl) ?_
            generalize wr.drew = W0 at hB0 hb0 c0d c1d hes0 hgl hbl
            have hH := Below.refl W0.heap.size W0
            refine takeG (i := 0) (v := .agg cs) rfl (by kernel_rfl) (by kernel_rfl) (by kernel_rfl) (by kernel_rfl) (fun _ _ _ h => h) (yields_row (by rfl) 29 (.tmp 7) rfl gb rfl cs (fun _ hS => run_buf hbuf (hb0.below hS hgl))) hH ?_
            try simp only [Act.put, List.setIfInBounds_toArray, List.set_cons_zero, List.set_cons_succ]
            refine takeG (i := 1) (v := .slice (some ⟨b, off, none⟩) n ncap) rfl (by kernel_rfl) (by kernel_rfl) (by kernel_rfl) (by kernel_rfl) (fun _ _ _ h => h) (Or.inl ⟨by rfl, fun W hW => by go_simp⟩) hH ?_
            try simp only [Act.put, List.setIfInBounds_toArray, List.set_cons_zero, List.set_cons_succ]
            refine takeG (i := 2) (v := .int .i64 (k : Int)) rfl (by kernel_rfl) (by kernel_rfl) (by kernel_rfl) (by kernel_rfl) (fun _ _ _ h => h) (Or.inl ⟨by rfl, fun W hW => by go_simp⟩) hH ?_
            try simp only [Act.put, List.setIfInBounds_toArray, List.set_cons_zero, List.set_cons_succ]
            refine takeG (i := 3) (v := .pointer (some ⟨b, off + k * 3, none⟩)) rfl (by kernel_rfl) (by kernel_rfl) (by kernel_rfl) (by kernel_rfl) (fun _ _ _ h => h) (Or.inl ⟨by rfl, fun W hW => by go_simp⟩) hH ?_
            try simp only [Act.put, List.setIfInBounds_toArray, List.set_cons_zero, List.set_cons_succ]
            refine takeG (i := 4) (v := .pointer (some ⟨b, off + k * 3 + 1, none⟩)) rfl (by kernel_rfl) (by kernel_rfl) (by kernel_rfl) (by kernel_rfl) (fun _ _ _ h => h) (Or.inl ⟨by rfl, fun W hW => by go_simp⟩) hH ?_
            try simp only [Act.put, List.setIfInBounds_toArray, List.set_cons_zero, List.set_cons_succ]
            refine takeG (i := 5) (v := .agg #[.int .i64 (F k).2.1, .int .u32 (F k).2.2]) rfl (by kernel_rfl) (by kernel_rfl) (by kernel_rfl) (by kernel_rfl) (fun _ _ _ h => h) (Or.inl ⟨by rfl, fun W hW => by have q0 := keepAt hW hbl c0d; have q1 := keepAt hW hbl c1d; go_simp⟩) hH ?_
            try simp only [Act.put, List.setIfInBounds_toArray, List.set_cons_zero, List.set_cons_succ]
            refine manyG (rs := [6, 10]) (by kernel_rfl) (by simp) (AllG.cons (i := 6) rfl (fun K hK => ?_) (AllG.cons (i := 10) rfl (fun K hK => ?_) AllG.nil))
            · go_simp
              refine (cP _).mono ?_
              rintro e W2 ⟨cs2, h2, rfl, hb2⟩
              go_wp2_with fail
              have hH2 := step_below hH hb2
              refine hK.out _ _ hH2 (fun _ => ?_)
              clear hK K
              try simp only [Act.put, List.setIfInBounds_toArray, List.set_cons_zero, List.set_cons_succ]
              refine takeG (i := 7) (v := .tuple #[.agg cs2, .bool ok]) rfl (by kernel_rfl) (by kernel_rfl) (by kernel_rfl) (by kernel_rfl) (fun _ _ _ h => h) (Or.inl ⟨by rfl, fun W hW => by go_simp⟩) hH2 ?_
              try simp only [Act.put, List.setIfInBounds_toArray, List.set_cons_zero, List.set_cons_succ]
              refine takeG (i := 8) (v := .agg cs2) rfl (by kernel_rfl) (by kernel_rfl) (by kernel_rfl) (by kernel_rfl) (fun _ _ _ h => h) (Or.inl ⟨by rfl, fun W hW => by go_simp⟩) hH2 ?_
              try simp only [Act.put, List.setIfInBounds_toArray, List.set_cons_zero, List.set_cons_succ]
              refine takeG (i := 9) (v := .bool ok) rfl (by kernel_rfl) (by kernel_rfl) (by kernel_rfl) (by kernel_rfl) (fun _ _ _ h => h) (Or.inl ⟨by rfl, fun W hW => by go_simp⟩) hH2 ?_
              try simp only [Act.put, List.setIfInBounds_toArray, List.set_cons_zero, List.set_cons_succ]
              refine onlyG (i := 10) (by kernel_rfl) rfl (fun K hK => ?_)
              go_simp
              have hZ := Blk.new W2 29 (emptyCells 0)
              have hH3 := hH2.alloc hH2.size (Obj.cells (emptyCells 0) 29)
              refine hK.out _ _ hH3 (fun _ => ?_)
              clear hK K
              try simp only [Act.put, List.setIfInBounds_toArray, List.set_cons_zero, List.set_cons_succ]
              refine onlyG (i := 11) (by kernel_rfl) rfl (fun K hK => ?_)
              refine step_store_row rfl 29 (.tmp 14) (.tmp 105) rfl _ rfl cs2 rfl 29 (emptyCells 0) hZ (hE.sizeE h2) h2.info h2.all ?_
              intro W5 hb5 hg5
              have hH5 := below_row hH3 hg5 (hH3).size (hH2.size)
              have hgx : W0.heap.size ≤ W2.heap.size := hH2.size
              refine hK.out _ _ hH5 (fun _ => ?_)
              clear hK K
              try simp only [Act.put, List.setIfInBounds_toArray, List.set_cons_zero, List.set_cons_succ]
              refine lastG (by kernel_rfl) rfl (by kernel_rfl) (fun K hK => ?_)
              go_simp
              refine hK.out _ _ ?_
              clear hK K
              go_wp2_with fail
              go_meet
              case rel => exact ⟨_, cs2, rfl, rfl, by omega, h2, hb5, hb0.below hH5 hgl, hes0.below hH5, step_below hB0 hH5⟩
            · go_simp
              have hZ := Blk.new W0 29 (emptyCells 0)
              have hH1 := hH.alloc hH.size (Obj.cells (emptyCells 0) 29)
              have hgz := hZ.lt
              refine hK.out _ _ hH1 (fun _ => ?_)
              clear hK K
              try simp only [Act.put, List.setIfInBounds_toArray, List.set_cons_zero, List.set_cons_succ]
              refine onlyG (i := 6) (by kernel_rfl) rfl (fun K hK => ?_)
              go_simp
              refine (cP _).mono ?_
              rintro e W2 ⟨cs2, h2, rfl, hb2⟩
              go_wp2_with fail
              have hH2 := step_below hH1 hb2
              have hZ2 := hZ.below hb2 hgz
              refine hK.out _ _ hH2 (fun _ => ?_)
              clear hK K
              try simp only [Act.put, List.setIfInBounds_toArray, List.set_cons_zero, List.set_cons_succ]
              refine takeG (i := 7) (v := .tuple #[.agg cs2, .bool ok]) rfl (by kernel_rfl) (by kernel_rfl) (by kernel_rfl) (by kernel_rfl) (fun _ _ _ h => h) (Or.inl ⟨by rfl, fun W hW => by go_simp⟩) hH2 ?_
              try simp only [Act.put, List.setIfInBounds_toArray, List.set_cons_zero, List.set_cons_succ]
              refine takeG (i := 8) (v := .agg cs2) rfl (by kernel_rfl) (by kernel_rfl) (by kernel_rfl) (by kernel_rfl) (fun _ _ _ h => h) (Or.inl ⟨by rfl, fun W hW => by go_simp⟩) hH2 ?_
              try simp only [Act.put, List.setIfInBounds_toArray, List.set_cons_zero, List.set_cons_succ]
              refine takeG (i := 9) (v := .bool ok) rfl (by kernel_rfl) (by kernel_rfl) (by kernel_rfl) (by kernel_rfl) (fun _ _ _ h => h) (Or.inl ⟨by rfl, fun W hW => by go_simp⟩) hH2 ?_
              try simp only [Act.put, List.setIfInBounds_toArray, List.set_cons_zero, List.set_cons_succ]
              refine onlyG (i := 11) (by kernel_rfl) rfl (fun K hK => ?_)
              refine step_store_row rfl 29 (.tmp 14) (.tmp 105) rfl _ rfl cs2 rfl 29 (emptyCells 0) hZ2 (hE.sizeE h2) h2.info h2.all ?_
              intro W5 hb5 hg5
              have hH5 := below_row hH2 hg5 (hH2).size (Nat.le_refl _)
              have hgx : W0.heap.size ≤ W0.heap.size := Nat.le_refl _
              refine hK.out _ _ hH5 (fun _ => ?_)
              clear hK K
              try simp only [Act.put, List.setIfInBounds_toArray, List.set_cons_zero, List.set_cons_succ]
              refine lastG (by kernel_rfl) rfl (by kernel_rfl) (fun K hK => ?_)
              go_simp
              refine hK.out _ _ ?_
              clear hK K
              go_wp2_with fail
              go_meet
              case rel => exact ⟨_, cs2, rfl, rfl, by omega, h2, hb5, hb0.below hH5 hgl, hes0.below hH5, step_below hB0 hH5⟩
          case rest =>
            obtain ⟨gx, cs2, rfl, rfl, hgx, h2, hbx, hbg, hesx, hBx⟩ := hcut
            have cx0 := keepAt hBx hbB HK.out.1
            have cx1 := keepAt hBx hbB HK.out.2
            have hok := HOK.out
            clear cP
            cases ok
            · have hlt : ¬ (l.length : Int) < room := of_decide_eq_false hok
              simp only [Bool.false_eq_true, if_false] at h2
              clear hok cx0 cx1
              go_wp2_with (first
                | (refine wpList_load_row rfl 29 (.tmp 14) rfl _ rfl 29 cs2 (0, 0) _ hbx Try.underlying29 rfl h2.info ?_)
                | (refine wpList_store_row rfl 29 (.tmp 7) (.tmp 124) rfl _ rfl cs2 rfl 29 cs hbg (hbuf.sizeE h2) h2.info h2.all ?_; intro w7 hb7 hg7; have hB7 := below_row hBx hg7 hBx.size hgB; have he7 := hesx.row hg7; clear hg7 hbg))
              go_meet
              case rel => exact ⟨cs2, l, A, cap, rfl, hc, h2, hlr, he7, hb7, hB7⟩
            · have hlt : (l.length : Int) < room := of_decide_eq_true hok
              simp only [if_true] at h2
              obtain ⟨i0, hi, hz0, hz1, hz2⟩ := info_parts entry_info
              clear hok
              go_upto_region 23 with fail
              have HW := Lib.hid (And.intro hbx (And.intro hbg hBx))
              have hgc := hbg.lt
              go_cut [9] (fun s wx => ∃ A' cap', s = .slice A' (l ++ [(F k).2]).length cap' ∧ (l ++ [(F k).2]).length ≤ cap' ∧ EntS wx gb A' (l ++ [(F k).2]) ∧ Blk wx gx 29 cs2 ∧ Blk wx gb 29 cs ∧ Below w.heap.size w wx)
              case first =>
                have hb0 := hbx.drew
                have hg0 := hbg.drew
                have hB0 := hBx.drew
                have hes0 : EntS wc.drew gb A l := hesx
                have c0d : wc.drew.cell? ⟨b, off + k * 3 + 1, none⟩ = some (.int .i64 (F k).2.1) := cx0
                have c1d : wc.drew.cell? ⟨b, off + k * 3 + 2, none⟩ = some (.int .u32 (F k).2.2) := cx1
                have hgl : gb < wc.drew.heap.size := hbg.lt
                have hbl : b < wc.drew.heap.size := Nat.lt_of_lt_of_le hbB hBx.size
                refine startG (fun W' => Below wc.drew.heap.size wc.drew W') 10 (by kernel_rfl) ?_
                clear cx0 cx1 hbx hbg hesx hBx
                generalize wc.drew = W0 at hb0 hg0 hB0 hes0 c0d c1d hgl hbl
                have hH := Below.refl W0.heap.size W0
                refine takeG (i := 1) (v := .slice A l.length cap) rfl (by kernel_rfl) (by kernel_rfl) (by kernel_rfl) (by kernel_rfl) (fun _ _ _ h => h) (Or.inl ⟨by rfl, fun W hW => by go_simp⟩) hH ?_
                try simp only [Act.put, List.setIfInBounds_toArray, List.set_cons_zero, List.set_cons_succ]
                refine takeG (i := 3) (v := .slice (some ⟨b, off, none⟩) n ncap) rfl (by kernel_rfl) (by kernel_rfl) (by kernel_rfl) (by kernel_rfl) (fun _ _ _ h => h) (Or.inl ⟨by rfl, fun W hW => by go_simp⟩) hH ?_
                try simp only [Act.put, List.setIfInBounds_toArray, List.set_cons_zero, List.set_cons_succ]
                refine takeG (i := 4) (v := .int .i64 (k : Int)) rfl (by kernel_rfl) (by kernel_rfl) (by kernel_rfl) (by kernel_rfl) (fun _ _ _ h => h) (Or.inl ⟨by rfl, fun W hW => by go_simp⟩) hH ?_
                try simp only [Act.put, List.setIfInBounds_toArray, List.set_cons_zero, List.set_cons_succ]
                refine takeG (i := 5) (v := .pointer (some ⟨b, off + k * 3, none⟩)) rfl (by kernel_rfl) (by kernel_rfl) (by kernel_rfl) (by kernel_rfl) (fun _ _ _ h => h) (Or.inl ⟨by rfl, fun W hW => by go_simp⟩) hH ?_
                try simp only [Act.put, List.setIfInBounds_toArray, List.set_cons_zero, List.set_cons_succ]
                refine takeG (i := 6) (v := .pointer (some ⟨b, off + k * 3 + 1, none⟩)) rfl (by kernel_rfl) (by kernel_rfl) (by kernel_rfl) (by kernel_rfl) (fun _ _ _ h => h) (Or.inl ⟨by rfl, fun W hW => by go_simp⟩) hH ?_
                try simp only [Act.put, List.setIfInBounds_toArray, List.set_cons_zero, List.set_cons_succ]
                refine takeG (i := 7) (v := .agg #[.int .i64 (F k).2.1, .int .u32 (F k).2.2]) rfl (by kernel_rfl) (by kernel_rfl) (by kernel_rfl) (by kernel_rfl) (fun _ _ _ h => h) (Or.inl ⟨by rfl, fun W hW => by have q0 := keepAt hW hbl c0d; have q1 := keepAt hW hbl c1d; go_simp⟩) hH ?_
                try simp only [Act.put, List.setIfInBounds_toArray, List.set_cons_zero, List.set_cons_succ]
                refine manyG (rs := [0, 8]) (by kernel_rfl) (by simp) (AllG.cons (i := 0) rfl (fun K hK => ?_) (AllG.cons (i := 8) rfl (fun K hK => ?_) AllG.nil))
                · go_simp
                  have own0 := own_base (own_empty W0 26 2) hH.size
                  have hA := hH.alloc hH.size (Obj.cells #[] 26)
                  refine hK.out _ _ hA (fun _ => ?_)
                  clear hK K
                  try simp only [Act.put, List.setIfInBounds_toArray, List.set_cons_zero, List.set_cons_succ]
                  refine manyG (rs := [2, 8]) (by kernel_rfl) (by simp) (AllG.cons (i := 2) rfl (fun K hK => ?_) (AllG.cons (i := 8) rfl (fun K hK => ?_) AllG.nil))
                  · rw [if_pos (by rfl)]
                    refine wp_append_sl _ (.tmp 114) (.tmp 115) 22 rfl W0.heap.size 26 i0 _ 2 16 Try.underlying22 hi hz0 hz1 hz2 rfl (by omega) _ 0 _ rfl own0 A l.length cap (fun i => (l.flatMap entV).getD i undef) rfl (sl_flat (hes0.below hA).sle) (flat_one l) (by unfold maxLen; omega) (by omega) hA.size ?_
                    intro v1 Wa own1 hg1 _
                    rw [flat_range, List.nil_append, Nat.zero_add] at own1
                    have hA1 := below_own hA own0 hg1 (Nat.le_refl _) (Nat.le_refl _)
                    refine hK.out _ _ hA1 (fun _ => ?_)
                    clear hK K hg1
                    try simp only [Act.put, List.setIfInBounds_toArray, List.set_cons_zero, List.set_cons_succ]
                    refine onlyG (i := 8) (by kernel_rfl) rfl (fun K hK => ?_)
                    go_simp
                    have src := sl_new Wa 26 (entV (F k).2)
                    have hA2 := hA1.alloc hA1.size (Obj.cells #[.int .i64 (F k).2.1, .int .u32 (F k).2.2] 26)
                    have own2 := own1.alloc (Obj.cells #[.int .i64 (F k).2.1, .int .u32 (F k).2.2] 26)
                    refine hK.out _ _ hA2 (fun _ => ?_)
                    clear hK K
                    try simp only [Act.put, List.setIfInBounds_toArray, List.set_cons_zero, List.set_cons_succ]
                    refine onlyG (i := 9) (by kernel_rfl) rfl (fun K hK => ?_)
                    rw [if_pos (by rfl)]
                    refine wp_append_sl _ (.tmp 116) (.tmp 122) 22 rfl W0.heap.size 26 i0 _ 2 16 Try.underlying22 hi hz0 hz1 hz2 rfl (by omega) _ l.length _ rfl own2 _ 1 _ (fun i => (entV (F k).2).getD i undef) rfl src (fun i hi => by rcases (by omega : i = 0 ∨ i = 1) with rfl | rfl <;> rfl) (by unfold maxLen; omega) (by omega) hA2.size ?_
                    intro v2 Wb own9 hg9 _
                    have hH9 := below_own hA2 own2 hg9 (Nat.le_refl _) (Nat.le_refl _)
                    refine hK.out _ _ hH9 (fun _ => ?_)
                    clear hK K hg9
                    try simp only [Act.put, List.setIfInBounds_toArray, List.set_cons_zero, List.set_cons_succ]
                    refine lastG (by kernel_rfl) rfl (by kernel_rfl) (fun K hK => ?_)
                    go_simp
                    refine hK.out _ _ ?_
                    clear hK K
                    go_wp2_with fail
                    have own10 : ∃ A' cap', v2 = .slice A' (l ++ [(F k).2]).length cap' ∧ (l ++ [(F k).2]).length ≤ cap' ∧ EntS Wb gb A' (l ++ [(F k).2]) := ents_own _ (by rw [List.flatMap_append, List.length_append]; exact own9) hgl
                    obtain ⟨A', cap', rfl, hc', he'⟩ := own10
                    go_meet
                    case rel => exact ⟨A', cap', rfl, hc', he', hb0.below hH9 hb0.lt, hg0.below hH9 hgl, step_below hB0 hH9⟩
                  · go_simp
                    have src := sl_new (W0.alloc (Obj.cells #[] 26)) 26 (entV (F k).2)
                    rw [show (W0.alloc (Obj.cells #[] 26)).heap.size = W0.heap.size + 1 by simp] at src
                    have hA1 := hA.alloc hA.size (Obj.cells #[.int .i64 (F k).2.1, .int .u32 (F k).2.2] 26)
                    have own1 := own0.alloc (Obj.cells #[.int .i64 (F k).2.1, .int .u32 (F k).2.2] 26)
                    refine hK.out _ _ hA1 (fun _ => ?_)
                    clear hK K
                    try simp only [Act.put, List.setIfInBounds_toArray, List.set_cons_zero, List.set_cons_succ]
                    refine onlyG (i := 2) (by kernel_rfl) rfl (fun K hK => ?_)
                    rw [if_pos (by rfl)]
                    refine wp_append_sl _ (.tmp 114) (.tmp 115) 22 rfl W0.heap.size 26 i0 _ 2 16 Try.underlying22 hi hz0 hz1 hz2 rfl (by omega) _ 0 _ rfl own1 A l.length cap (fun i => (l.flatMap entV).getD i undef) rfl (sl_flat (hes0.below hA1).sle) (flat_one l) (by unfold maxLen; omega) (by omega) hA1.size ?_
                    intro v1 Wa own2 hg1 _
                    rw [flat_range, List.nil_append, Nat.zero_add] at own2
                    have hA2 := below_own hA1 own1 hg1 (Nat.le_refl _) (Nat.le_refl _)
                    have src2 := src.grown hg1 (fun _ b o e => by injection e with e; injection e with e1 _; dsimp only; omega)
                    refine hK.out _ _ hA2 (fun _ => ?_)
                    clear hK K hg1
                    try simp only [Act.put, List.setIfInBounds_toArray, List.set_cons_zero, List.set_cons_succ]
                    refine onlyG (i := 9) (by kernel_rfl) rfl (fun K hK => ?_)
                    rw [if_pos (by rfl)]
                    refine wp_append_sl _ (.tmp 116) (.tmp 122) 22 rfl W0.heap.size 26 i0 _ 2 16 Try.underlying22 hi hz0 hz1 hz2 rfl (by omega) _ l.length _ rfl own2 _ 1 _ (fun i => (entV (F k).2).getD i undef) rfl src2 (fun i hi => by rcases (by omega : i = 0 ∨ i = 1) with rfl | rfl <;> rfl) (by unfold maxLen; omega) (by omega) hA2.size ?_
                    intro v2 Wb own9 hg9 _
                    have hH9 := below_own hA2 own2 hg9 (Nat.le_refl _) (Nat.le_refl _)
                    refine hK.out _ _ hH9 (fun _ => ?_)
                    clear hK K hg9
                    try simp only [Act.put, List.setIfInBounds_toArray, List.set_cons_zero, List.set_cons_succ]
                    refine lastG (by kernel_rfl) rfl (by kernel_rfl) (fun K hK => ?_)
                    go_simp
                    refine hK.out _ _ ?_
                    clear hK K
                    go_wp2_with fail
                    have own10 : ∃ A' cap', v2 = .slice A' (l ++ [(F k).2]).length cap' ∧ (l ++ [(F k).2]).length ≤ cap' ∧ EntS Wb gb A' (l ++ [(F k).2]) := ents_own _ (by rw [List.flatMap_append, List.length_append]; exact own9) hgl
                    obtain ⟨A', cap', rfl, hc', he'⟩ := own10
                    go_meet
                    case rel => exact ⟨A', cap', rfl, hc', he', hb0.below hH9 hb0.lt, hg0.below hH9 hgl, step_below hB0 hH9⟩
                · go_simp
                  have src := sl_new W0 26 (entV (F k).2)
                  have hA := hH.alloc hH.size (Obj.cells #[.int .i64 (F k).2.1, .int .u32 (F k).2.2] 26)
                  refine hK.out _ _ hA (fun _ => ?_)
                  clear hK K
                  try simp only [Act.put, List.setIfInBounds_toArray, List.set_cons_zero, List.set_cons_succ]
                  refine onlyG (i := 0) (by kernel_rfl) rfl (fun K hK => ?_)
                  go_simp
                  have own0 := own_base (own_empty (W0.alloc (Obj.cells #[.int .i64 (F k).2.1, .int .u32 (F k).2.2] 26)) 26 2) hA.size
                  rw [show (W0.alloc (Obj.cells #[.int .i64 (F k).2.1, .int .u32 (F k).2.2] 26)).heap.size = W0.heap.size + 1 by simp] at own0
                  have hA1 := hA.alloc hA.size (Obj.cells #[] 26)
                  have src1 := src.step ((Below.refl _ _).alloc (Nat.le_refl _) (Obj.cells #[] 26))
                  refine hK.out _ _ hA1 (fun _ => ?_)
                  clear hK K
                  try simp only [Act.put, List.setIfInBounds_toArray, List.set_cons_zero, List.set_cons_succ]
                  refine onlyG (i := 2) (by kernel_rfl) rfl (fun K hK => ?_)
                  rw [if_pos (by rfl)]
                  refine wp_append_sl _ (.tmp 114) (.tmp 115) 22 rfl W0.heap.size 26 i0 _ 2 16 Try.underlying22 hi hz0 hz1 hz2 rfl (by omega) _ 0 _ rfl own0 A l.length cap (fun i => (l.flatMap entV).getD i undef) rfl (sl_flat (hes0.below hA1).sle) (flat_one l) (by unfold maxLen; omega) (by omega) hA1.size ?_
                  intro v1 Wa own2 hg1 _
                  rw [flat_range, List.nil_append, Nat.zero_add] at own2
                  have hA2 := below_own hA1 own0 hg1 (Nat.le_refl _) (Nat.le_refl _)
                  have src2 := src1.grown hg1 (fun _ b o e => by injection e with e; injection e with e1 _; dsimp only; omega)
                  refine hK.out _ _ hA2 (fun _ => ?_)
                  clear hK K hg1
                  try simp only [Act.put, List.setIfInBounds_toArray, List.set_cons_zero, List.set_cons_succ]
                  refine onlyG (i := 9) (by kernel_rfl) rfl (fun K hK => ?_)
                  rw [if_pos (by rfl)]
                  refine wp_append_sl _ (.tmp 116) (.tmp 122) 22 rfl W0.heap.size 26 i0 _ 2 16 Try.underlying22 hi hz0 hz1 hz2 rfl (by omega) _ l.length _ rfl own2 _ 1 _ (fun i => (entV (F k).2).getD i undef) rfl src2 (fun i hi => by rcases (by omega : i = 0 ∨ i = 1) with rfl | rfl <;> rfl) (by unfold maxLen; omega) (by omega) hA2.size ?_
                  intro v2 Wb own9 hg9 _
                  have hH9 := below_own hA2 own2 hg9 (Nat.le_refl _) (Nat.le_refl _)
                  refine hK.out _ _ hH9 (fun _ => ?_)
                  clear hK K hg9
                  try simp only [Act.put, List.setIfInBounds_toArray, List.set_cons_zero, List.set_cons_succ]
                  refine lastG (by kernel_rfl) rfl (by kernel_rfl) (fun K hK => ?_)
                  go_simp
                  refine hK.out _ _ ?_
                  clear hK K
                  go_wp2_with fail
                  have own10 : ∃ A' cap', v2 = .slice A' (l ++ [(F k).2]).length cap' ∧ (l ++ [(F k).2]).length ≤ cap' ∧ EntS Wb gb A' (l ++ [(F k).2]) := ents_own _ (by rw [List.flatMap_append, List.length_append]; exact own9) hgl
                  obtain ⟨A', cap', rfl, hc', he'⟩ := own10
                  go_meet
                  case rel => exact ⟨A', cap', rfl, hc', he', hb0.below hH9 hb0.lt, hg0.below hH9 hgl, step_below hB0 hH9⟩
              case rest =>
                obtain ⟨A', cap', rfl, hc', he', hbx', hbg', hBx'⟩ := hcut
                have hlr' : ((l ++ [(F k).2]).length : Int) ≤ room := by simp; omega
                clear cx0 cx1 hbx hbg hBx hesx HW
                go_wp2_with (first
                  | (refine wpList_load_row rfl 29 (.tmp 14) rfl _ rfl 29 cs2 (0, 0) _ hbx' Try.underlying29 rfl h2.info ?_)
                  | (refine wpList_store_row rfl 29 (.tmp 7) (.tmp 124) rfl _ rfl cs2 rfl 29 cs hbg' (hbuf.sizeE h2) h2.info h2.all ?_; intro w7 hb7 hg7; have hB7 := below_row hBx' hg7 hBx'.size hgB; have he7 := he'.row hg7; clear hg7 hbg'))
                go_meet
                case rel => exact ⟨cs2, l ++ [(F k).2], A', cap', rfl, hc', h2, hlr', he7, hb7, hB7⟩
        · rw [hp] at cp
          clear hp c0 c1
          have hB7 := fun (W : World) (h : Below w.heap.size w W) (o : Obj) => h.alloc h.size o
          rcases l with _ | ⟨x, t⟩
          · have cP := pop_none cs room hbuf
            go_wp2_with (refine wpList_load_row rfl 29 (.tmp 7) rfl _ rfl 29 cs (0, 0) _ hbr Try.underlying29 rfl hbuf.info ?_)
            refine (cP _).mono ?_
            rintro e' w4 ⟨rfl, hb4⟩
            have hB4 := step_below hBr hb4
            have hbr4 := hbr.below hb4 hbr.lt
            have hg4 := hbr4.lt
            have hB6 := (hB4.alloc hB4.size (Obj.cells (entCells (0, 0)) 26)).alloc (hB4.alloc hB4.size (Obj.cells (entCells (0, 0)) 26)).size (Obj.cells (emptyCells 0) 29)
            have hx6 := (Blk.new w4 26 (entCells (0, 0))).alloc (Obj.cells (emptyCells 0) 29)
            have hbr6 := (hbr4.alloc (Obj.cells (entCells (0, 0)) 26)).alloc (Obj.cells (emptyCells 0) 29)
            unfold entCells at hB6 hx6 hbr6 ⊢
            clear hbr hBr hb4 hB4 hbr4 cP cp
            go_upto_region 14 with (refine wpList_store_row rfl 29 (.tmp 12) (.tmp 67) rfl _ rfl cs rfl 29 (emptyCells 0) (Blk.new2 _ _ _ _) (hE.sizeE hbuf) hbuf.info hbuf.all ?_; intro w9 hb9 hg9; have hB9 := below_row hB6 hg9 hB6.size (by have := hB6.size; simp at this; omega); have hx9 := hx6.grown hg9 (fun e => by injection e with e; omega); have hbr9 := hbr6.grown hg9 (fun e => by injection e with e; omega); clear hg9 hB6 hx6 hbr6)
            have x0 := hx9.cell 0
            have x1 := hx9.cell 1
            simp only [List.getElem?_toArray, List.getElem?_cons_zero, List.getElem?_cons_succ] at x0 x1
            go_quiet (fail)
            have hb10 := hb9.drewN nq
            have hbr10 := hbr9.drewN nq
            have hB10 : Below w.heap.size w (w9.drewN nq) := ⟨hB9.os, hB9.tape, hB9.output, hB9.size, hB9.block⟩
            clear x0 x1 hb9 hbr9 hB9 hx9
            generalize w9.drewN nq = w10 at hb10 hbr10 hB10 ⊢
            go_wp2_with (first
              | (refine wpList_load_row rfl 29 (.tmp 12) rfl _ rfl 29 cs (0, 0) _ hb10 Try.underlying29 rfl hbuf.info ?_)
              | (refine wpList_store_row rfl 29 (.tmp 7) (.tmp 96) rfl _ rfl cs rfl 29 cs hbr10 rfl hbuf.info hbuf.all ?_; intro w11 hb11 hg11; have hB11 := below_row hB10 hg11 hB10.size hgB; clear hg11 hbr10))
            go_meet
            case rel => exact ⟨cs, [], A, cap, rfl, hc, hbuf, hlr, EntS.nil, hb11, hB11⟩
          · have cP := pop_some cs x t room hbuf
            simp only [List.length_cons] at hc hlr hl16
            obtain ⟨b2, off2, rfl, hgb2, hb2W, hce⟩ := hes (by simp)
            have hce0 := hce 0 (by simp)
            have hlp : (0 : Int) < (t.length : Int) + 1 := by omega
            go_wp2_with (refine wpList_load_row rfl 29 (.tmp 7) rfl _ rfl 29 cs (0, 0) _ hbr Try.underlying29 rfl hbuf.info ?_)
            refine (cP _).mono ?_
            rintro e' w4 ⟨cs3, h3, rfl, hb4⟩
            have hB4 := step_below hBr hb4
            have hbr4 := hbr.below hb4 hbr.lt
            have hg4 := hbr4.lt
            have hes4 := hes.below hb4
            have hA4 := Below.refl w4.heap.size w4
            have hA6 := (hA4.alloc hA4.size (Obj.cells (entCells x) 26)).alloc (hA4.alloc hA4.size (Obj.cells (entCells x) 26)).size (Obj.cells (emptyCells 0) 29)
            have hx6 := (Blk.new w4 26 (entCells x)).alloc (Obj.cells (emptyCells 0) 29)
            unfold entCells at hA6 hx6 ⊢
            have hb24 : b2 < w4.heap.size := Nat.lt_of_lt_of_le hb2W hb4.size
            have d0 := keepAt hb4 hb2W hce0.1
            have d1 := keepAt hb4 hb2W hce0.2
            clear hbr hBr hb4 cP cp hes hce hce0
            go_upto_region 14 with (refine wpList_store_row rfl 29 (.tmp 12) (.tmp 67) rfl _ rfl cs3 rfl 29 (emptyCells 0) (Blk.new2 _ _ _ _) (hE.sizeE h3) h3.info h3.all ?_; intro w9 hb9 hg9; have hA9 := below_row hA6 hg9 hA6.size (by omega); have hx9 := hx6.grown hg9 (fun e => by injection e with e; omega); clear hg9 hA6 hx6)
            have hB9 := step_below hB4 hA9
            have hbr9 := hbr4.below hA9 hg4
            have hes9 := hes4.below hA9
            have x0 := hx9.cell 0
            have x1 := hx9.cell 1
            simp only [List.getElem?_toArray, List.getElem?_cons_zero, List.getElem?_cons_succ] at x0 x1
            have e0 : w9.cell? ⟨b2, off2, none⟩ = some (.int .i64 x.1) := keepAt hA9 hb24 d0
            have e1 : w9.cell? ⟨b2, off2 + 1, none⟩ = some (.int .u32 x.2) := keepAt hA9 hb24 d1
            clear hA9 hB4 hbr4 hes4 d0 d1
            go_quiet (fail)
            have hb10 := hb9.drewN nq
            have hbr10 := hbr9.drewN nq
            have hB10 : Below w.heap.size w (w9.drewN nq) := ⟨hB9.os, hB9.tape, hB9.output, hB9.size, hB9.block⟩
            have hes10 : EntS (w9.drewN nq) gb (some ⟨b2, off2, none⟩) (x :: t) := hes9
            clear x0 x1 e0 e1 hb9 hbr9 hB9 hx9 hes9
            generalize w9.drewN nq = w10 at hb10 hbr10 hB10 hes10 ⊢
            have hc1 : 1 ≤ cap := by omega
            by_cases hcap : cap = 1
            · subst hcap
              have ht0 : t = [] := List.length_eq_zero_iff.1 (by omega)
              subst ht0
              go_wp2_with (first
                | (refine wpList_load_row rfl 29 (.tmp 12) rfl _ rfl 29 cs3 (0, 0) _ hb10 Try.underlying29 rfl h3.info ?_)
                | (refine wpList_store_row rfl 29 (.tmp 7) (.tmp 96) rfl _ rfl cs3 rfl 29 cs hbr10 (hbuf.sizeE h3) h3.info h3.all ?_; intro w11 hb11 hg11; have hB11 := below_row hB10 hg11 hB10.size hgB; clear hg11 hbr10))
              go_meet
              case rel => exact ⟨cs3, [], _, _, rfl, by simp, h3, by simp; omega, EntS.nil, hb11, hB11⟩
            · have hc2 : 1 < cap := by omega
              go_wp2_with (first
                | (refine wpList_load_row rfl 29 (.tmp 12) rfl _ rfl 29 cs3 (0, 0) _ hb10 Try.underlying29 rfl h3.info ?_)
                | (refine wpList_store_row rfl 29 (.tmp 7) (.tmp 96) rfl _ rfl cs3 rfl 29 cs hbr10 (hbuf.sizeE h3) h3.info h3.all ?_; intro w11 hb11 hg11; have hB11 := below_row hB10 hg11 hB10.size hgB; have hes11 := (hes10.row hg11).tail; clear hg11 hbr10))
              go_meet
              case rel => exact ⟨cs3, t, _, _, rfl, by omega, h3, by omega, hes11, hb11, hB11⟩
      case rest =>
        obtain ⟨cs, l, A, cap, rfl, hc, hbuf, hlr, hes, hbr, hBr⟩ := hcut
        clear cp c0 c1
        obtain ⟨v, is, hF⟩ := findP_some l addr
        have cFi := find_any cs l room hbuf addr v is hF
        have cRe := fun wx hx => refFind_any A cap l (by have := hbuf.le; omega) addr v is hF wx hx
        have cLe := len_any cs l room hbuf
        have cFu := full_any cs l room hbuf
        have cEn := entries_any cs l room hbuf
        have hlz := hbuf.le
        clear hF
        obtain ⟨fu, hfu⟩ : ∃ fu, decide (room ≤ (l.length : Int)) = fu := ⟨_, rfl⟩
        have hfu2 : ((l.length : Int) == room) = fu := by
          rw [← hfu]
          by_cases he : (l.length : Int) = room
          · rw [decide_eq_true (by omega), beq_iff_eq]; exact he
          · rw [decide_eq_false (by omega), beq_eq_false_iff_ne]; exact he
        rw [hfu] at cFu
        have HF2 := Lib.hid hfu2
        clear hfu hfu2
        go_wp2_with (refine wpList_load_row rfl 29 (.tmp 7) rfl _ rfl 29 cs (0, 0) _ hbr Try.underlying29 rfl hbuf.info ?_)
        refine (cFi _).mono ?_
        rintro e' w4 ⟨rfl, hb4⟩
        have hB4 := step_below hBr hb4
        have hbr4 := hbr.below hb4 hbr.lt
        have hes4 := hes.below hb4
        clear hBr hbr hes hb4 cFi
        go_wp2_with fail
        refine (cRe _ hes4.sle).mono ?_
        rintro e' w5 ⟨rfl, rfl⟩
        clear cRe
        have hlz2 : (0 : Int) ≤ (l.length : Int) := by omega
        cases is <;> cases fu
        all_goals
          have hfu2 := HF2.out
          go_wp2_with (first
            | (go_at_call 15; refine (cLe _).mono ?_; rintro e' w6 ⟨rfl, hb6⟩; have hB6 := step_below hB4 hb6; have hbr6 := hbr4.below hb6 hbr4.lt; have hes6 := hes4.below hb6; clear hbr4 hB4 hes4 hb6)
            | (go_at_call 16; refine (cFu _).mono ?_; rintro e' w7 ⟨rfl, hb7⟩; have hB7 := step_below hB6 hb7; have hbr7 := hbr6.below hb7 hbr6.lt; have hes7 := hes6.below hb7; clear hbr6 hB6 hes6 hb7)
            | (go_at_call 20; refine (cEn _).mono ?_; rintro e' w8 ⟨v8, rfl, hown8, hb8⟩; have hB8 := step_below hB7 hb8; have hbr8 := hbr7.below hb8 hbr7.lt; have hes8 := hes7.below hb8; obtain ⟨A8, cap8, rfl, hc8, hs8⟩ := own_sle entV (fun _ => rfl) (0, 0) l hown8; have hes9 := hes8.sle; clear hbr7 hB7 hes7 hb8 hown8)
            | (go_at_call 19; refine (same_yes _ _ _ _ _ (fun i => l.getD i (0, 0)) (by omega) _ hs8 hes9).mono ?_; rintro e' w9 ⟨rfl, q9, rfl⟩)
            | (refine wpList_load_row rfl 29 (.tmp 7) rfl _ rfl 29 cs (0, 0) _ hbr4 Try.underlying29 rfl hbuf.info ?_)
            | (refine wpList_load_rowG (by rfl) 29 (.tmp 7) rfl _ rfl 29 cs (0, 0) _ hbr6 Try.underlying29 rfl hbuf.info ?_)
            | (refine wpList_load_rowG (by rfl) 29 (.tmp 7) rfl _ rfl 29 cs (0, 0) _ hbr7 Try.underlying29 rfl hbuf.info ?_))
          go_roundw
          case rel => exact ⟨k + 1, cs, l, A, cap, by omega, by go_num, rfl, hc, hbuf, hlr, hes8, hbr8.drewN _, ⟨hB8.os, hB8.tape, hB8.output, hB8.size, hB8.block⟩⟩
          case measure => simp [intOf]; omega
    · obtain rfl : n = k := by omega
      have hkn' : ¬ (n : Int) < (n : Int) := by omega
      go_wp2_with fail
      go_ret
      exact ⟨rfl, hBr⟩
end Go.Proofs.Ytaanmamgmjhegaa
