/- BufOrder returns true for every row of entries, whatever was put and taken ahead of it, and leaves old memory as it was: the walk. -/
import Derived.Test.YtaanmamgmjhegaaBufAwake
import Derived.Test.YtaanmamgmjhegaaOpen0
import Derived.Deep.QuietTactic
import Derived.BigQuiet
namespace Go.Proofs.Ytaanmamgmjhegaa
open Go.ChangeShapes Go.WideShapes Go.ChangeAt Go.RowKit Go.Deep
set_option linter.unusedVariables false
set_option linter.unusedSimpArgs false

def entV (x : Ent) : List Value := [.int .i64 x.1, .int .u32 x.2]
def entL (E : Nat → Ent) (n : Nat) : List Ent := (List.range n).map E
theorem entL_succ (E : Nat → Ent) (n : Nat) : entL E (n + 1) = entL E n ++ [E n] := by unfold entL; rw [List.range_succ, List.map_append]; rfl
theorem entL_length (E : Nat → Ent) (n : Nat) : (entL E n).length = n := by simp [entL]
def entD (E : Nat → Ent) (n k : Nat) : List Ent := (entL E n).drop k
theorem entD_cons (E : Nat → Ent) {n k : Nat} (h : k < n) : entD E n k = E k :: entD E n (k + 1) := by
  unfold entD
  rw [List.drop_eq_getElem_cons (by rw [entL_length]; exact h)]
  congr 1
  simp [entL]
theorem entD_all (E : Nat → Ent) (n : Nat) : entD E n n = [] := List.drop_eq_nil_of_le (by rw [entL_length]; exact Nat.le_refl _)

section
variable {W W1 : World} {gb b o : Nat} {t : TypeId} {cs : Array Value} {u v : Value}
theorem keepS (hb : Below W.heap.size W W1) (hg : gb < W.heap.size) (hb' : b < W.heap.size) (h : Blk W gb t cs ∧ W.cell? ⟨b, o, none⟩ = some u ∧ W.cell? ⟨b, o + 1, none⟩ = some v) :
    Blk W1 gb t cs ∧ W1.cell? ⟨b, o, none⟩ = some u ∧ W1.cell? ⟨b, o + 1, none⟩ = some v := ⟨h.1.below hb hg, keepAt hb hb' h.2.1, keepAt hb hb' h.2.2⟩
theorem keepG {row : Option Nat} (hg : W.grownBy W1 row) (h1 : some gb ≠ row) (h2 : some b ≠ row) (h : Blk W gb t cs ∧ W.cell? ⟨b, o, none⟩ = some u ∧ W.cell? ⟨b, o + 1, none⟩ = some v) :
    Blk W1 gb t cs ∧ W1.cell? ⟨b, o, none⟩ = some u ∧ W1.cell? ⟨b, o + 1, none⟩ = some v := by
  have hlt : b < W.heap.size := World.block_lt_of_cell? W _ h.2.1
  exact ⟨h.1.grown hg h1, (World.cell?_of_block (w := W) (a := ⟨b, o, none⟩) (hg.block b hlt h2)).trans h.2.1, (World.cell?_of_block (w := W) (a := ⟨b, o + 1, none⟩) (hg.block b hlt h2)).trans h.2.2⟩
end

section
variable {H : Type} {enc : TypeId × Value → H} {W : World}
theorem elem_ent (n : Nat) (cs : List Value) (x : DataW H × List MemPlace) (h : DataW.trod enc Try.prog W 0 (fun _ => true) true n 26 cs = some x) : ∃ x : Ent, cs = entV x ∧ ((-9223372036854775808 ≤ x.1 ∧ x.1 ≤ 9223372036854775807) ∧ 0 ≤ x.2 ∧ x.2 ≤ 4294967295) := by
  obtain ⟨hcl, hcs⟩ := elem_ints Try.underlying26 (by kernel_rfl) (by kernel_rfl) (fun i => if i = 1 then .u32 else .i64) (fun i f hf => by
    rcases i with _ | _ | i
    · obtain rfl := Option.some.inj hf; exact Try.underlying3
    · obtain rfl := Option.some.inj hf; exact Try.underlying24
    · cases hf) n cs x h
  obtain ⟨c0, c1, rfl⟩ : ∃ c0 c1, cs = [c0, c1] := by
    match cs, hcl with
    | [c0, c1], _ => exact ⟨c0, c1, rfl⟩
  obtain ⟨n0, e0, w0⟩ := hcs 0 (by decide)
  obtain ⟨n1, e1, w1⟩ := hcs 1 (by decide)
  obtain rfl := Option.some.inj e0
  obtain rfl := Option.some.inj e1
  exact ⟨(n0, n1), rfl, bounds_i64 w0, bounds_u32 w1⟩
theorem open_ents {b0 : Nat} {v : Value} {d : DataW H} {p : List MemPlace} (hv : Value.okWide Try.prog W .any b0 22 v) (h : DataW.Trod enc Try.prog W 0 (fun _ => true) true 22 v d p) :
    ∃ (A : Option Addr) (len cap : Nat) (E : Nat → Ent), v = .slice A len cap ∧ len ≤ cap ∧ cap ≤ maxLen ∧ SlE W A len 2 (fun i => entV (E i)) ∧ ∀ i, i < len → (-9223372036854775808 ≤ (E i).1 ∧ (E i).1 ≤ 9223372036854775807) ∧ 0 ≤ (E i).2 ∧ (E i).2 ≤ 4294967295 := by
  obtain ⟨a0, len, cap, rfl⟩ := okWide_slice Try.underlying22 hv
  obtain ⟨fuel, hf⟩ := h
  obtain ⟨A, len', cap', E, e, hl, hm, hs, ho⟩ := open_slc (size := 2) Try.underlying22 (by kernel_rfl) (by decide) entV (fun x : Ent => (-9223372036854775808 ≤ x.1 ∧ x.1 ≤ 9223372036854775807) ∧ 0 ≤ x.2 ∧ x.2 ≤ 4294967295) elem_ent hf
  have e' : Value.slice a0 len cap = .slice A len' cap' := by simpa [Value.cells] using e
  exact ⟨A, len', cap', E, e', hl, hm, hs, ho⟩
end

theorem bufOrder_long (z : Value) (A : Option Addr) (len cap : Nat) (hl : 16 < len) (hm : len ≤ maxLen) (w : World) :
    Calls Try.prog 3 #[z, .slice A len cap] w fun e w' => e = .returned (.bool true) ∧ Below w.heap.size w w' := by
  unfold maxLen at hm
  have hl' : (16 : Int) < (len : Int) := by omega
  go_enter Try.func3, Try.ntmps3
  go_wp2_with fail
  refine (awake05_any _).mono ?_
  rintro e' w1 ⟨rfl, hb1⟩
  go_wp2_with fail
  refine (awake05_any _).mono ?_
  rintro e' w2 ⟨rfl, hb2⟩
  go_wp2
  go_ret
  exact ⟨rfl, step_below hb1 hb2⟩

set_option maxHeartbeats 4000000 in
theorem bufOrder_true (ah : Int) (h0 : 0 ≤ ah) (h1 : ah ≤ 255) (A : Option Addr) (len cap : Nat) (E : Nat → Ent) (hl : len ≤ 16) (w : World) (hs : SlE w A len 2 (fun i => entV (E i))) :
    Calls Try.prog 3 #[.int .u8 ah, .slice A len cap] w fun e w' => e = .returned (.bool true) ∧ Below w.heap.size w w' := by
  have hE := empty_buf 0 (by decide) (by decide)
  have hn16 := empty_buf 16 (by decide) (by decide)
  have cN := new_any 16
  rw [if_pos (by decide), if_pos (by decide)] at cN
  generalize emptyCells 16 = cs0 at hn16 cN
  obtain ⟨a, rfl⟩ : ∃ a : Nat, ah = (a : Int) := ⟨ah.toNat, by omega⟩
  have HS := Lib.hid hs
  clear hs
  go_enter Try.func3, Try.ntmps3
  go_wp2_with fail
  refine (awake05_any _).mono ?_
  rintro e' w1 ⟨rfl, hb1⟩
  go_wp2_with fail
  refine (cN _).mono ?_
  rintro e' w2 ⟨rfl, hb2⟩
  have hB2 := step_below hb1 hb2
  clear hb1 hb2 cN
  go_wp2_with (refine wpList_store_row rfl 29 (.tmp 5) (.tmp 25) rfl _ rfl cs0 rfl 29 (emptyCells 0) (Blk.new _ _ _) (hE.sizeE hn16) hn16.info hn16.all ?_; intro w3 hb3 hg3; have hB3 := below_row (hB2.alloc hB2.size _) hg3 (by have := hB2.size; simp; omega) hB2.size)
  have hgB := hB2.size
  generalize w2.heap.size = gb at hb3 hgB ⊢
  clear hB2 hg3
  go_loopw [7] (fun v wr => ∃ (k : Nat) (cs : Array Value), k ≤ a ∧ v = .int .i64 k ∧ Buf cs [] 16 ∧ Blk wr gb 29 cs ∧ Below w.heap.size w wr) (fun v _ => a - (intOf v).toNat)
  case atStart => exact ⟨0, cs0, Nat.zero_le _, rfl, hn16, hb3, hB3⟩
  case round =>
    clear hb3 hB3
    obtain ⟨k, cs, hk, rfl, hbuf, hbr, hBr⟩ := hrel
    by_cases hka : k < a
    · have cP := put_yes cs [] 16 hbuf ((k : Int), 0) (by decide) (by decide)
      have hk0 : (k : Int) < (a : Int) := by omega
      go_wp2_with (refine wpList_load_row rfl 29 (.tmp 5) rfl _ rfl 29 cs (0, 0) _ hbr Try.underlying29 rfl hbuf.info ?_)
      refine (cP _).mono ?_
      rintro e' w4 ⟨cs2, h2, rfl, hb4⟩
      have hB4 := step_below hBr hb4
      have hbr4 := hbr.below hb4 hbr.lt
      clear cP hbr hBr hb4
      go_wp2_with (first
        | (refine wpList_store_row rfl 29 (.tmp 5) (.tmp 38) rfl _ rfl cs2 rfl 29 cs hbr4 (hbuf.sizeE h2) h2.info h2.all ?_; intro w5 hb5 hg5; have hB5 := below_row hB4 hg5 hB4.size hgB; clear hg5 hbr4)
        | (refine wpList_load_row rfl 29 (.tmp 5) rfl _ rfl 29 cs2 (0, 0) _ hb5 Try.underlying29 rfl h2.info ?_))
      refine (pop_some cs2 ((k : Int), 0) [] 16 h2 _).mono ?_
      rintro e' w6 ⟨cs3, h3, rfl, hb6⟩
      have hB6 := step_below hB5 hb6
      have hbr6 := hb5.below hb6 hb5.lt
      clear hB4 hB5 hb5 hb6
      go_wp2_with (refine wpList_store_row rfl 29 (.tmp 5) (.tmp 44) rfl _ rfl cs3 rfl 29 cs2 hbr6 (h2.sizeE h3) h3.info h3.all ?_; intro w7 hb7 hg7; have hB7 := below_row hB6 hg7 hB6.size hgB; clear hg7 hbr6)
      go_roundw
      case rel => exact ⟨k + 1, cs3, by omega, by go_num, h3, hb7, hB7⟩
      case measure => simp [intOf]; omega
    · obtain rfl : k = a := by omega
      have hka' : ¬ (k : Int) < (k : Int) := by omega
      go_wp2_with fail
      go_loopw [8] (fun v wr => ∃ (k : Nat) (cs : Array Value), k ≤ len ∧ v = .int .i64 k ∧ Buf cs (entL E k) 16 ∧ Blk wr gb 29 cs ∧ Below w.heap.size w wr) (fun v _ => len - (intOf v).toNat)
      case atStart => exact ⟨0, cs, Nat.zero_le _, rfl, hbuf, hbr, hBr⟩
      case round =>
        clear hbuf hbr hBr hka hka' hk
        obtain ⟨k, cs, hk, rfl, hbuf, hbr, hBr⟩ := hrel
        by_cases hkl : k < len
        · obtain ⟨b, off, rfl, hbB, hcc⟩ := HS.out (by omega)
          have c0 : wr.cell? ⟨b, off + k * 2, none⟩ = some (.int .i64 (E k).1) := keepAt hBr hbB (hcc k hkl 0 _ rfl)
          have c1 : wr.cell? ⟨b, off + k * 2 + 1, none⟩ = some (.int .u32 (E k).2) := keepAt hBr hbB (hcc k hkl 1 _ rfl)
          have hbW : b < wr.heap.size := Nat.lt_of_lt_of_le hbB hBr.size
          have cP := put_yes cs _ 16 hbuf (E k) (by rw [entL_length]; omega) (by rw [entL_length]; omega)
          rw [← entL_succ] at cP
          have hk0 : (0 : Int) ≤ (k : Int) := by omega
          have hk1 : (k : Int) < (len : Int) := by omega
          clear hcc
          go_upto_region 12 with fail
          go_cut [9, 10] (fun s t wx => ∃ (gx : Nat) (cs2 : Array Value), s = .pointer (some ⟨gx, 0, none⟩) ∧ t = .bool true ∧ gb < gx ∧ Buf cs2 (entL E (k + 1)) 16 ∧ Blk wx gx 29 cs2 ∧ Blk wx gb 29 cs ∧ Below w.heap.size w wx)
          case first =>
            have hH0 : Blk wr.drew gb 29 cs ∧ wr.drew.cell? ⟨b, off + k * 2, none⟩ = some (.int .i64 (E k).1) ∧ wr.drew.cell? ⟨b, off + k * 2 + 1, none⟩ = some (.int .u32 (E k).2) := ⟨hbr, c0, c1⟩
            refine startG (fun W' => Blk W' gb 29 cs ∧ W'.cell? ⟨b, off + k * 2, none⟩ = some (.int .i64 (E k).1) ∧ W'.cell? ⟨b, off + k * 2 + 1, none⟩ = some (.int .u32 (E k).2)) 11 (by kernel_rfl) ?_
            have hBd := hBr.drew
            have hgl : gb < wr.drew.heap.size := hbr.lt
            have hbl : b < wr.drew.heap.size := hbW
            clear c0 c1 hbr hBr
            generalize wr.drew = W1 at hH0 hBd hgl hbl
            refine takeG (i := 0) (v := .agg cs) rfl (by kernel_rfl) (by kernel_rfl) (by kernel_rfl) (by kernel_rfl) (fun _ _ _ h => h) (yields_row (by rfl) 29 (.tmp 5) rfl gb rfl cs (fun _ hS => run_buf hbuf hS.1)) hH0 ?_
            try simp only [Act.put, List.setIfInBounds_toArray, List.set_cons_zero, List.set_cons_succ]
            refine takeG (i := 1) (v := .slice (some ⟨b, off, none⟩) len cap) rfl (by kernel_rfl) (by kernel_rfl) (by kernel_rfl) (by kernel_rfl) (fun _ _ _ h => h) (Or.inl ⟨by rfl, fun W hW => by go_simp⟩) hH0 ?_
            try simp only [Act.put, List.setIfInBounds_toArray, List.set_cons_zero, List.set_cons_succ]
            refine takeG (i := 2) (v := .int .i64 (k : Int)) rfl (by kernel_rfl) (by kernel_rfl) (by kernel_rfl) (by kernel_rfl) (fun _ _ _ h => h) (Or.inl ⟨by rfl, fun W hW => by go_simp⟩) hH0 ?_
            try simp only [Act.put, List.setIfInBounds_toArray, List.set_cons_zero, List.set_cons_succ]
            refine takeG (i := 3) (v := .pointer (some ⟨b, off + k * 2, none⟩)) rfl (by kernel_rfl) (by kernel_rfl) (by kernel_rfl) (by kernel_rfl) (fun _ _ _ h => h) (Or.inl ⟨by rfl, fun W hW => by go_simp⟩) hH0 ?_
            try simp only [Act.put, List.setIfInBounds_toArray, List.set_cons_zero, List.set_cons_succ]
            refine takeG (i := 4) (v := .agg #[.int .i64 (E k).1, .int .u32 (E k).2]) rfl (by kernel_rfl) (by kernel_rfl) (by kernel_rfl) (by kernel_rfl) (fun _ _ _ h => h) (Or.inl ⟨by rfl, fun W hW => by obtain ⟨_, q0, q1⟩ := hW; go_simp⟩) hH0 ?_
            try simp only [Act.put, List.setIfInBounds_toArray, List.set_cons_zero, List.set_cons_succ]
            refine manyG (rs := [5, 9]) (by kernel_rfl) (by simp) (AllG.cons (i := 5) rfl (fun K hK => ?_) (AllG.cons (i := 9) rfl (fun K hK => ?_) AllG.nil))
            · go_simp
              refine (cP _).mono ?_
              rintro e W2 ⟨cs2, h2, rfl, hb2⟩
              go_wp2_with fail
              have hH2 := keepS hb2 hgl hbl hH0
              have hB2 := step_below hBd hb2
              have hgx : W1.heap.size ≤ W2.heap.size := hb2.size
              refine hK.out _ _ hH2 (fun _ => ?_)
              clear hK K
              try simp only [Act.put, List.setIfInBounds_toArray, List.set_cons_zero, List.set_cons_succ]
              refine takeG (i := 6) (v := .tuple #[.agg cs2, .bool true]) rfl (by kernel_rfl) (by kernel_rfl) (by kernel_rfl) (by kernel_rfl) (fun _ _ _ h => h) (Or.inl ⟨by rfl, fun W hW => by go_simp⟩) hH2 ?_
              try simp only [Act.put, List.setIfInBounds_toArray, List.set_cons_zero, List.set_cons_succ]
              refine takeG (i := 7) (v := .agg cs2) rfl (by kernel_rfl) (by kernel_rfl) (by kernel_rfl) (by kernel_rfl) (fun _ _ _ h => h) (Or.inl ⟨by rfl, fun W hW => by go_simp⟩) hH2 ?_
              try simp only [Act.put, List.setIfInBounds_toArray, List.set_cons_zero, List.set_cons_succ]
              refine takeG (i := 8) (v := .bool true) rfl (by kernel_rfl) (by kernel_rfl) (by kernel_rfl) (by kernel_rfl) (fun _ _ _ h => h) (Or.inl ⟨by rfl, fun W hW => by go_simp⟩) hH2 ?_
              try simp only [Act.put, List.setIfInBounds_toArray, List.set_cons_zero, List.set_cons_succ]
              refine onlyG (i := 9) (by kernel_rfl) rfl (fun K hK => ?_)
              go_simp
              have hZ := Blk.new W2 29 (emptyCells 0)
              have hA := (Below.refl W2.heap.size W2).alloc (Nat.le_refl _) (Obj.cells (emptyCells 0) 29)
              have hH3 := keepS hA (Nat.lt_of_lt_of_le hgl hgx) (Nat.lt_of_lt_of_le hbl hgx) hH2
              have hB3 := step_below hB2 hA
              refine hK.out _ _ hH3 (fun _ => ?_)
              clear hK K hA
              try simp only [Act.put, List.setIfInBounds_toArray, List.set_cons_zero, List.set_cons_succ]
              refine onlyG (i := 10) (by kernel_rfl) rfl (fun K hK => ?_)
              refine step_store_row rfl 29 (.tmp 9) (.tmp 59) rfl _ rfl cs2 rfl 29 (emptyCells 0) hZ (hE.sizeE h2) h2.info h2.all ?_
              intro W5 hb5 hg5
              have hne : gb ≠ W2.heap.size := by omega
              have hnb : b ≠ W2.heap.size := by omega
              have hH5 := keepG hg5 (fun e => hne (Option.some.inj e)) (fun e => hnb (Option.some.inj e)) hH3
              have hB5 := below_row hB3 hg5 (hB3).size (Nat.le_trans hBd.size hgx)
              refine hK.out _ _ hH5 (fun _ => ?_)
              clear hK K
              try simp only [Act.put, List.setIfInBounds_toArray, List.set_cons_zero, List.set_cons_succ]
              refine lastG (by kernel_rfl) rfl (by kernel_rfl) (fun K hK => ?_)
              go_simp
              refine hK.out _ _ ?_
              clear hK K
              go_wp2_with fail
              go_meet
              case rel => exact ⟨_, cs2, rfl, rfl, by omega, h2, hb5, hH5.1, hB5⟩
            · go_simp
              have hZ := Blk.new W1 29 (emptyCells 0)
              have hA := (Below.refl W1.heap.size W1).alloc (Nat.le_refl _) (Obj.cells (emptyCells 0) 29)
              have hH1 := keepS hA hgl hbl hH0
              have hB1 := step_below hBd hA
              have hgz := hZ.lt
              refine hK.out _ _ hH1 (fun _ => ?_)
              clear hK K
              try simp only [Act.put, List.setIfInBounds_toArray, List.set_cons_zero, List.set_cons_succ]
              refine onlyG (i := 5) (by kernel_rfl) rfl (fun K hK => ?_)
              go_simp
              refine (cP _).mono ?_
              rintro e W2 ⟨cs2, h2, rfl, hb2⟩
              go_wp2_with fail
              have hH2 := keepS hb2 (Nat.lt_of_lt_of_le hgl hA.size) (Nat.lt_of_lt_of_le hbl hA.size) hH1
              have hB2 := step_below hB1 hb2
              have hZ2 := hZ.below hb2 hgz
              refine hK.out _ _ hH2 (fun _ => ?_)
              clear hK K
              try simp only [Act.put, List.setIfInBounds_toArray, List.set_cons_zero, List.set_cons_succ]
              refine takeG (i := 6) (v := .tuple #[.agg cs2, .bool true]) rfl (by kernel_rfl) (by kernel_rfl) (by kernel_rfl) (by kernel_rfl) (fun _ _ _ h => h) (Or.inl ⟨by rfl, fun W hW => by go_simp⟩) hH2 ?_
              try simp only [Act.put, List.setIfInBounds_toArray, List.set_cons_zero, List.set_cons_succ]
              refine takeG (i := 7) (v := .agg cs2) rfl (by kernel_rfl) (by kernel_rfl) (by kernel_rfl) (by kernel_rfl) (fun _ _ _ h => h) (Or.inl ⟨by rfl, fun W hW => by go_simp⟩) hH2 ?_
              try simp only [Act.put, List.setIfInBounds_toArray, List.set_cons_zero, List.set_cons_succ]
              refine takeG (i := 8) (v := .bool true) rfl (by kernel_rfl) (by kernel_rfl) (by kernel_rfl) (by kernel_rfl) (fun _ _ _ h => h) (Or.inl ⟨by rfl, fun W hW => by go_simp⟩) hH2 ?_
              try simp only [Act.put, List.setIfInBounds_toArray, List.set_cons_zero, List.set_cons_succ]
              refine onlyG (i := 10) (by kernel_rfl) rfl (fun K hK => ?_)
              refine step_store_row rfl 29 (.tmp 9) (.tmp 59) rfl _ rfl cs2 rfl 29 (emptyCells 0) hZ2 (hE.sizeE h2) h2.info h2.all ?_
              intro W5 hb5 hg5
              have hne : gb ≠ W1.heap.size := by omega
              have hnb : b ≠ W1.heap.size := by omega
              have hH5 := keepG hg5 (fun e => hne (Option.some.inj e)) (fun e => hnb (Option.some.inj e)) hH2
              have hB5 := below_row hB2 hg5 (hB2).size (hBd.size)
              refine hK.out _ _ hH5 (fun _ => ?_)
              clear hK K
              try simp only [Act.put, List.setIfInBounds_toArray, List.set_cons_zero, List.set_cons_succ]
              refine lastG (by kernel_rfl) rfl (by kernel_rfl) (fun K hK => ?_)
              go_simp
              refine hK.out _ _ ?_
              clear hK K
              go_wp2_with fail
              go_meet
              case rel => exact ⟨_, cs2, rfl, rfl, by omega, h2, hb5, hH5.1, hB5⟩
          case rest =>
            obtain ⟨gx, cs2, rfl, rfl, hne, h2, hbx, hbg, hBx⟩ := hcut
            clear c0 c1 cP
            go_wp2_with (first
              | (refine wpList_load_row rfl 29 (.tmp 9) rfl _ rfl 29 cs2 (0, 0) _ hbx Try.underlying29 rfl h2.info ?_)
              | (refine wpList_store_row rfl 29 (.tmp 5) (.tmp 63) rfl _ rfl cs2 rfl 29 cs hbg (hbuf.sizeE h2) h2.info h2.all ?_; intro w7 hb7 hg7; have hB7 := below_row hBx hg7 hBx.size hgB; clear hg7 hbg))
            go_roundw
            case rel => exact ⟨k + 1, cs2, by omega, by go_num, h2, hb7, hB7⟩
            case measure => simp [intOf]; omega
        · obtain rfl : len = k := by omega
          have hkl' : ¬ (len : Int) < (len : Int) := by omega
          go_wp2_with fail
          go_loopw [11] (fun v wr => ∃ (k : Nat) (cs : Array Value), k ≤ len ∧ v = .int .i64 k ∧ Buf cs (entD E len k) 16 ∧ Blk wr gb 29 cs ∧ Below w.heap.size w wr) (fun v _ => len - (intOf v).toNat)
          case atStart => exact ⟨0, cs, Nat.zero_le _, rfl, hbuf, hbr, hBr⟩
          case round =>
            clear hbuf hbr hBr hkl hkl' hk
            obtain ⟨k, cs, hk, rfl, hbuf, hbr, hBr⟩ := hrel
            by_cases hkl : k < len
            · obtain ⟨b, off, rfl, hbB, hcc⟩ := HS.out (by omega)
              have c0 : w.cell? ⟨b, off + k * 2, none⟩ = some (.int .i64 (E k).1) := hcc k hkl 0 _ rfl
              have c1 : w.cell? ⟨b, off + k * 2 + 1, none⟩ = some (.int .u32 (E k).2) := hcc k hkl 1 _ rfl
              rw [entD_cons E hkl] at hbuf
              have hk0 : (0 : Int) ≤ (k : Int) := by omega
              have hk1 : (k : Int) < (len : Int) := by omega
              clear hcc
              have HK := Lib.hid (And.intro c0 c1)
              clear c0 c1
              go_wp2_with (refine wpList_load_row rfl 29 (.tmp 5) rfl _ rfl 29 cs (0, 0) _ hbr Try.underlying29 rfl hbuf.info ?_)
              refine (pop_some cs (E k) _ 16 hbuf _).mono ?_
              rintro e' w6 ⟨cs3, h3, rfl, hb6⟩
              have hB6 := step_below hBr hb6
              have hbr6 := hbr.below hb6 hbr.lt
              clear hBr hbr hb6
              have hB7 := (hB6.alloc hB6.size (Obj.cells (entCells (E k)) 26))
              have hB8 := hB7.alloc hB7.size (Obj.cells (emptyCells 0) 29)
              have hx8 := (Blk.new w6 26 (entCells (E k))).alloc (Obj.cells (emptyCells 0) 29)
              have hbr8 := (hbr6.alloc (Obj.cells (entCells (E k)) 26)).alloc (Obj.cells (emptyCells 0) 29)
              have hg6 := hbr6.lt
              unfold entCells at hB8 hx8 hbr8 ⊢
              go_upto_region 20 with (refine wpList_store_row rfl 29 (.tmp 13) (.tmp 74) rfl _ rfl cs3 rfl 29 (emptyCells 0) (Blk.new2 _ _ _ _) (hE.sizeE h3) h3.info h3.all ?_; intro w9 hb9 hg9; have hB9 := below_row hB8 hg9 hB8.size (by have := hB6.size; omega); have hx9 := hx8.grown hg9 (fun e => by injection e with e; omega); have hbr9 := hbr8.grown hg9 (fun e => by injection e with e; omega); clear hg9 hB8 hx8 hbr8 hB7 hB6 hbr6)
              have x0 := hx9.cell 0
              have x1 := hx9.cell 1
              simp only [List.getElem?_toArray, List.getElem?_cons_zero, List.getElem?_cons_succ] at x0 x1
              have c0 := keepAt hB9 hbB HK.out.1
              have c1 := keepAt hB9 hbB HK.out.2
              go_wp2_with fail
              go_quiet (fail)
              have hb10 := hb9.drewN nq
              have hbr10 := hbr9.drewN nq
              have hB10 : Below w.heap.size w (w9.drewN nq) := ⟨hB9.os, hB9.tape, hB9.output, hB9.size, hB9.block⟩
              clear x0 x1 c0 c1 hb9 hbr9 hB9 hx9
              generalize w9.drewN nq = w10 at hb10 hbr10 hB10 ⊢
              go_wp2_with (first
                | (refine wpList_load_row rfl 29 (.tmp 13) rfl _ rfl 29 cs3 (0, 0) _ hb10 Try.underlying29 rfl h3.info ?_)
                | (refine wpList_store_row rfl 29 (.tmp 5) (.tmp 86) rfl _ rfl cs3 rfl 29 cs hbr10 (hbuf.sizeE h3) h3.info h3.all ?_; intro w11 hb11 hg11; have hB11 := below_row hB10 hg11 hB10.size hgB; clear hg11 hbr10))
              go_roundw
              case rel => exact ⟨k + 1, cs3, by omega, by go_num, h3, hb11, hB11⟩
              case measure => simp [intOf]; omega
            · obtain rfl : k = len := by omega
              rw [entD_all] at hbuf
              have hkl' : ¬ (k : Int) < (k : Int) := by omega
              go_wp2_with (refine wpList_load_row rfl 29 (.tmp 5) rfl _ rfl 29 cs (0, 0) _ hbr Try.underlying29 rfl hbuf.info ?_)
              refine (len_any cs _ 16 hbuf _).mono ?_
              rintro e' w6 ⟨rfl, hb6⟩
              have hB6 := step_below hBr hb6
              go_wp2_with fail
              go_ret
              exact ⟨rfl, hB6⟩

set_option maxRecDepth 100000 in
theorem bufOrder_lifted (os : Os) (started : os.Started) (H : Type) (enc : TypeId × Value → H) :
    ReturnsInHanded {} Try.checked os 3 .any (Rows.bufOrderSpec.pre6 enc Try.prog Try.f3 Rows.bufOrderRow.domain false) (Rows.bufOrderSpec.post enc Try.prog Try.f3 false true false false) := by
  refine law_lifted started (by kernel_rfl) Try.func3
    (ChangeSpec.witness6 (enc := enc) (C := Try.checked) false ⟨#[], #[.int .u8 0, .slice none 0 0], []⟩ 8 (by kernel_rfl) (by kernel_rfl) (by kernel_rfl) (by kernel_rfl))
    4 rfl (by kernel_rfl) Try.underlying4 (fun ds h => ?_) (by kernel_rfl) ?_
  · rw [show Try.f3.params.size = 2 from by kernel_rfl] at h
    match ds, h with
    | [_, _], _ => rfl
  intro W base args ds p hval hA hlt hsz
  rw [Try.params3] at hA hval hsz
  obtain ⟨v0, v1, d0, d1, p0, p1, rfl, rfl, rfl, h0, h1⟩ := trodAll_two hA
  obtain ⟨z, rfl, rfl, rfl, ws⟩ := open_int Try.underlying5 (hval 0 5 v0 rfl rfl) h0
  have hz := bounds_u8 ws
  obtain ⟨A, len, cap, E, rfl, hlc, hcm, hs, ho⟩ := open_ents (hval 1 22 v1 rfl rfl) h1
  by_cases hl : len ≤ 16
  · exact bufOrder_true z hz.1 hz.2 A len cap E hl W hs
  · exact bufOrder_long _ A len cap (by omega) (by omega) W

theorem bufOrder_holds : Rows.BufOrderSaid :=
  OpenClaim.holds_of_wide 3 Try.f3 rfl rfl rfl rfl rfl rfl rfl ⟨rfl, rfl, rfl, rfl, rfl⟩ rfl rfl rfl rfl rfl (by kernel_rfl) Try.func3 (by kernel_rfl)
    (of_decide_eq_true (by kernel_rfl)) (by unfold Func.isWrapper; first | (rw [if_pos (by decide +kernel)]; kernel_rfl) | (rw [if_neg (by decide +kernel)]; exact ⟨rfl, rfl⟩))
    (fun os started H enc _ => bufOrder_lifted os started H enc)

end Go.Proofs.Ytaanmamgmjhegaa
