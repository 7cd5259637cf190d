/- The document's Read: what it answers of any bytes. -/
import Derived.Test.YtlmhifnanhkcnaaDoorCodeRefAt
import Derived.Test.YtlmhifnanhkcnaaDoorIsaRefCheck
namespace Go.Proofs.YtlmhifnanhkcnaaDoor
open Go.ChangeShapes Go.WideShapes Go.ChangeAt Go.RowKit Go.Deep
set_option linter.unusedVariables false
set_option linter.unusedSimpArgs false

/-- What holds at each round: the program that is built, the two blocks of zeros, old memory. -/
structure RfInv (w wr : World) (nb pb : Nat) (v vm : Value) (vs : List Value) (LL : List (List Ins)) (M : List Int) (room : Int) : Prop where
  vl : vs.length = LL.length
  blk : Blk wr pb 38 #[v, vm, .int .i64 room]
  outer : wr.ownsRow (pb + 1) 39 1 v LL.length vs
  inner : ∀ t, t < LL.length → wr.ownsRow (pb + 1) 24 5 (vs.getD t undef) (LL.getD t []).length ((LL.getD t []).flatMap Ins.cells)
  mem : wr.ownsRow (pb + 1) 22 1 vm M.length (M.map (Value.int .u32))
  back : Blk wr w.heap.size 38 #[.slice none 0 0, .slice none 0 0, .int .i64 0]
  zero : Blk wr nb 38 #[.slice none 0 0, .slice none 0 0, .int .i64 0]
  below : Below w.heap.size w wr
  o1 : w.heap.size < nb
  o2 : nb < pb
  o3 : pb < wr.heap.size
section
variable {w wr w' w5 : World} {nb pb : Nat} {v vm v' v2 : Value} {vs : List Value} {LL : List (List Ins)} {M : List Int} {room z : Int} {Q : List Ins} {o : Obj}
theorem RfInv.down (h : RfInv w wr nb pb v vm vs LL M room) (hb : Below wr.heap.size wr w') : RfInv w w' nb pb v vm vs LL M room :=
  ⟨h.vl, h.blk.below hb h.o3, own_below h.outer (Nat.le_refl _) hb, fun t ht => own_below (h.inner t ht) (Nat.le_refl _) hb, own_below h.mem (Nat.le_refl _) hb,
    h.back.below hb (by have := h.o1; have := h.o2; have := h.o3; omega), h.zero.below hb (by have := h.o2; have := h.o3; omega), step_below h.below hb, h.o1, h.o2, Nat.lt_of_lt_of_le h.o3 hb.size⟩
theorem RfInv.drew (h : RfInv w wr nb pb v vm vs LL M room) : RfInv w wr.drew nb pb v vm vs LL M room := h.down (Below.refl _ _).drew
theorem RfInv.word (h : RfInv w wr nb pb (.slice none 0 0) vm [] [] M room) (hown4 : (wr.alloc o).ownsRow (pb + 1) 22 1 vm M.length (M.map (Value.int .u32)))
    (hg5 : (wr.alloc o).grownBy w5 vm.ownBlock) (hown5 : w5.ownsRow (pb + 1) 22 1 v' (M.length + 1) (M.map (Value.int .u32) ++ [.int .u32 z])) :
    RfInv w (w5.setCell ⟨pb, 1, none⟩ v') nb pb (.slice none 0 0) v' [] [] (M ++ [z]) room := by
  have h1 := h.down ((Below.refl wr.heap.size wr).alloc (Nat.le_refl _) o)
  have o1 := h.o1
  have o2 := h.o2
  have o3 := h1.o3
  have hset : w5.grownBy (w5.setCell ⟨pb, 1, none⟩ v') (some pb) := set_only _
  have hB5 := below_own h1.below hown4 hg5 (by omega) (Nat.le_refl _)
  exact
    { vl := rfl
      blk := (h1.blk.grow_own hown4 hg5 (by omega)).set_ 1 v'
      outer := ⟨rfl, .inl ⟨rfl, rfl⟩⟩
      inner := fun t ht => absurd ht (by simp)
      mem := by rw [List.length_append, List.map_append]; exact own_grown hown5 hset (by omega)
      back := (h1.back.grow_own hown4 hg5 (by omega)).grown hset (by intro e; have := Option.some.inj e; omega)
      zero := (h1.zero.grow_own hown4 hg5 (by omega)).grown hset (by intro e; have := Option.some.inj e; omega)
      below := hB5.setCell (p := ⟨pb, 1, none⟩) (by show w.heap.size ≤ pb; omega) v'
      o1 := o1
      o2 := o2
      o3 := Nat.lt_of_lt_of_le (Nat.lt_of_lt_of_le o3 hg5.size) hset.size }
theorem RfInv.next {B : Nat} (h : RfInv w wr nb pb v vm vs LL M room) (hown2 : wr.ownsRow B 24 5 v2 Q.length (Q.flatMap Ins.cells)) (hBB : pb + 1 ≤ B)
    (hown4 : (wr.alloc o).ownsRow (pb + 1) 39 1 v LL.length vs) (hg5 : (wr.alloc o).grownBy w5 v.ownBlock) (hown5 : w5.ownsRow (pb + 1) 39 1 v' (LL.length + 1) (vs ++ [v2])) :
    RfInv w (w5.setCell ⟨pb, 0, none⟩ v') nb pb v' vm (vs ++ [v2]) (LL ++ [Q]) M room := by
  have hal := (Below.refl wr.heap.size wr).alloc (Nat.le_refl _) o
  have h1 := h.down hal
  have o1 := h.o1
  have o2 := h.o2
  have o3 := h1.o3
  have hset : w5.grownBy (w5.setCell ⟨pb, 0, none⟩ v') (some pb) := set_only _
  have row : ∀ {e : TypeId} {size n : Nat} {x : Value} {xs : List Value}, e ≠ 39 → (wr.alloc o).ownsRow (pb + 1) e size x n xs → (w5.setCell ⟨pb, 0, none⟩ v').ownsRow (pb + 1) e size x n xs :=
    fun hne hx => own_grown (own_apart hx hown4 hne hg5) hset (by omega)
  have hB5 := below_own h1.below hown4 hg5 (by omega) (Nat.le_refl _)
  exact
    { vl := by rw [List.length_append, List.length_append, h.vl]; rfl
      blk := (h1.blk.grow_own hown4 hg5 (by omega)).set_ 0 v'
      outer := by rw [List.length_append]; exact own_grown hown5 hset (by omega)
      inner := fun t ht => by
        rcases getD_snoc LL Q [] t ht with ⟨h1', h2⟩ | ⟨h1', h2⟩
        · rw [h2]
          have hv : (vs ++ [v2]).getD t undef = vs.getD t undef := by
            have : t < vs.length := by rw [h.vl]; exact h1'
            simp [List.getD_eq_getElem?_getD, List.getElem?_append_left this]
          rw [hv]
          exact row (by decide) (h1.inner t h1')
        · rw [h2]
          have hv : (vs ++ [v2]).getD t undef = v2 := by
            have : t = vs.length := by rw [h.vl]; exact h1'
            subst this
            simp [List.getD_eq_getElem?_getD]
          rw [hv]
          exact row (by decide) (own_base (own_below hown2 (Nat.le_refl _) hal) hBB)
      mem := row (by decide) h1.mem
      back := (h1.back.grow_own hown4 hg5 (by omega)).grown hset (by intro e; have := Option.some.inj e; omega)
      zero := (h1.zero.grow_own hown4 hg5 (by omega)).grown hset (by intro e; have := Option.some.inj e; omega)
      below := hB5.setCell (p := ⟨pb, 0, none⟩) (by show w.heap.size ≤ pb; omega) v'
      o1 := o1
      o2 := o2
      o3 := Nat.lt_of_lt_of_le (Nat.lt_of_lt_of_le o3 hg5.size) hset.size }
theorem RfInv.prog (h : RfInv w wr nb pb v vm vs LL M room) (hins : ∀ l ∈ LL, ∀ q ∈ l, q.Ok) (hM : ∀ z ∈ M, 0 ≤ z ∧ z ≤ 4294967295) (hr : 0 ≤ room ∧ room ≤ 255) :
    ∃ p : Pg, v = .slice p.A p.n p.cap ∧ vm = .slice p.mA p.m p.mcap ∧ p.room = room ∧ Rep p (absOf LL M room) ∧ p.Ok ∧ ∀ W : World, (∀ {e : TypeId} {size n : Nat} {x : Value} {xs : List Value}, wr.ownsRow (pb + 1) e size x n xs → W.ownsRow (pb + 1) e size x n xs) → p.At W := by
  obtain ⟨uA, uc, rfl, hu1, hu2⟩ := own_cap h.outer
  obtain ⟨mA, mc, rfl, hm1, hm2⟩ := own_cap h.mem
  have hcd : ∀ t, t < LL.length → ∃ A c, vs.getD t undef = .slice A (LL.getD t []).length c ∧ cdF vs LL t = ⟨A, (LL.getD t []).length, c, fun i => (LL.getD t []).getD i default⟩ ∧ (LL.getD t []).length ≤ c ∧ c ≤ maxLen := by
    intro t ht
    obtain ⟨A1, c1, e1, hc1, hc2⟩ := own_cap (h.inner t ht)
    exact ⟨A1, c1, e1, by unfold cdF; rw [e1], hc1, hc2⟩
  refine ⟨⟨uA, LL.length, uc, cdF vs LL, mA, M.length, mc, fun i => M.getD i 0, room⟩, rfl, rfl, rfl, ?_, ?_, ?_⟩
  · exact ⟨rfl, rfl, rfl, fun t ht => by obtain ⟨A1, c1, _, e, _⟩ := hcd t ht; show (cdF vs LL t).len = _; rw [e]; rfl,
      fun t ht i hi => by obtain ⟨A1, c1, _, e, _⟩ := hcd t ht; show (cdF vs LL t).F i = _; rw [e]; rfl, fun i hi => rfl⟩
  · refine ⟨hu1, hu2, hm1, hm2, fun t ht => ?_, fun i hi => hM _ (getD_mem hi), by show _ ≤ room; omega, by show room ≤ _; omega⟩
    obtain ⟨A1, c1, _, e, h1, h2⟩ := hcd t ht
    show (cdF vs LL t).Ok
    rw [e]
    exact ⟨h1, h2, fun i hi => hins _ (getD_mem ht) _ (getD_mem hi)⟩
  · intro W f
    refine ⟨?_, fun t ht => ?_, ?_⟩
    · obtain ⟨A1, c1, e1, _, hs⟩ := own_sl (f h.outer)
      injection e1 with a1 _ _
      subst a1
      rw [Nat.mul_one] at hs
      exact hs.congr fun t ht => by
        obtain ⟨A1, c1, e1, e, _⟩ := hcd t ht
        show vs.getD t undef = (cdF vs LL t).val
        rw [e1, e]
        rfl
    · obtain ⟨A1, c1, e1, e, _, _⟩ := hcd t ht
      obtain ⟨A2, c2, e2, _, hs⟩ := own_sle Ins.cells (fun _ => rfl) default (LL.getD t []) (f (h.inner t ht))
      rw [e1] at e2
      injection e2 with a1 _ a3
      subst a1 a3
      show (cdF vs LL t).At W
      rw [e]
      exact hs
    · obtain ⟨A1, c1, e1, _, hs⟩ := own_sl (f h.mem)
      injection e1 with a1 _ _
      subst a1
      rw [Nat.mul_one] at hs
      exact hs.congr fun i hi => by simp [List.getD_eq_getElem?_getD, List.getElem?_eq_getElem hi]
end

def zeroAgg : Value := .agg #[.slice none 0 0, .slice none 0 0, .int .i64 0]
set_option maxRecDepth 100000 in
theorem refRead_tiny (A : Option Addr) (len cap : Nat) (Z : Nat → Int) (h3 : len < 3) (w : World) : Calls Tryd.prog 29 #[.slice A len cap] w (RdPost Z len len 2 w) := by
  have hB := ((Below.refl w.heap.size w).alloc (Nat.le_refl _) (Obj.cells #[.slice none 0 0, .slice none 0 0, .int .i64 0] 38)).alloc (by simp) (Obj.cells #[.slice none 0 0, .slice none 0 0, .int .i64 0] 38)
  have hx := (Blk.new w 38 #[.slice none 0 0, .slice none 0 0, .int .i64 0]).alloc (Obj.cells #[.slice none 0 0, .slice none 0 0, .int .i64 0] 38)
  have hy := Blk.new2 w (Obj.cells #[.slice none 0 0, .slice none 0 0, .int .i64 0] 38) 38 #[.slice none 0 0, .slice none 0 0, .int .i64 0]
  have h3' : (len : Int) < 3 := by omega
  go_enter Tryd.func29, Tryd.ntmps29
  go_upto_region 2 with fail
  obtain ⟨w0, hw0⟩ : ∃ w0, (w.alloc (Obj.cells #[.slice none 0 0, .slice none 0 0, .int .i64 0] 38)).alloc (Obj.cells #[.slice none 0 0, .slice none 0 0, .int .i64 0] 38) = w0 := ⟨_, rfl⟩
  rw [hw0] at hB hx hy ⊢
  clear hw0
  have f0 := hx.frozen 0
  have f1 := hx.frozen 1
  have f2 := hx.frozen 2
  have x0 := hx.cell 0
  have x1 := hx.cell 1
  have x2 := hx.cell 2
  have y0 := hy.cell 0
  have y1 := hy.cell 1
  have y2 := hy.cell 2
  simp only [List.getElem?_toArray, List.getElem?_cons_zero, List.getElem?_cons_succ] at x0 x1 x2 y0 y1 y2
  have HF := Lib.hid (And.intro (hx.set3 (.slice none 0 0) (.slice none 0 0) (.int .i64 0)) (below_set3 hB (Nat.le_refl _) (.slice none 0 0) (.slice none 0 0) (.int .i64 0)))
  clear hx hy hB
  go_wp2_with fail
  refine bodyPost_ret (results_row_tmp2 rfl _ _ _ _ rfl (run_pg HF.out.1)) rfl ?_
  exact ⟨_, rfl, fun _ => rfl, fun h => absurd h (by decide), HF.out.2⟩

set_option maxRecDepth 100000 in
theorem refRead_head (A : Option Addr) (len cap : Nat) (Z : Nat → Int) (h3 : 3 ≤ len) (w : World) (hsl : Sl w A len (fun i => .int .u8 (Z i))) (hh : ¬ headZ Z) :
    Calls Tryd.prog 29 #[.slice A len cap] w (RdPost Z len 0 3 w) := by
  have hB := ((Below.refl w.heap.size w).alloc (Nat.le_refl _) (Obj.cells #[.slice none 0 0, .slice none 0 0, .int .i64 0] 38)).alloc (by simp) (Obj.cells #[.slice none 0 0, .slice none 0 0, .int .i64 0] 38)
  have hx := (Blk.new w 38 #[.slice none 0 0, .slice none 0 0, .int .i64 0]).alloc (Obj.cells #[.slice none 0 0, .slice none 0 0, .int .i64 0] 38)
  have hy := Blk.new2 w (Obj.cells #[.slice none 0 0, .slice none 0 0, .int .i64 0] 38) 38 #[.slice none 0 0, .slice none 0 0, .int .i64 0]
  have h3' : ¬ (len : Int) < 3 := by omega
  have hs0 := hsl.below (Nat.le_refl _) hB
  go_enter Tryd.func29, Tryd.ntmps29
  go_upto_region 2 with fail
  obtain ⟨w0, hw0⟩ : ∃ w0, (w.alloc (Obj.cells #[.slice none 0 0, .slice none 0 0, .int .i64 0] 38)).alloc (Obj.cells #[.slice none 0 0, .slice none 0 0, .int .i64 0] 38) = w0 := ⟨_, rfl⟩
  rw [hw0] at hB hx hy hs0 ⊢
  clear hw0 hsl
  obtain ⟨b, off, rfl, hlt, hc⟩ := hs0 (by omega)
  have c0 := hc 0 (by omega)
  have c1 := hc 1 (by omega)
  have c2 := hc 2 (by omega)
  dsimp only at c0 c1 c2
  rw [Nat.add_zero] at c0
  have f0 := hx.frozen 0
  have f1 := hx.frozen 1
  have f2 := hx.frozen 2
  have x0 := hx.cell 0
  have x1 := hx.cell 1
  have x2 := hx.cell 2
  have y0 := hy.cell 0
  have y1 := hy.cell 1
  have y2 := hy.cell 2
  simp only [List.getElem?_toArray, List.getElem?_cons_zero, List.getElem?_cons_succ] at x0 x1 x2 y0 y1 y2
  have HF := Lib.hid (And.intro (hx.set3 (.slice none 0 0) (.slice none 0 0) (.int .i64 0)) (below_set3 hB (Nat.le_refl _) (.slice none 0 0) (.slice none 0 0) (.int .i64 0)))
  have hl0 : (0 : Int) < (len : Int) := by omega
  have hl1 : (1 : Int) < (len : Int) := by omega
  have hl2 : (2 : Int) < (len : Int) := by omega
  have hcs : Z 0 ≠ 100 ∨ (Z 0 = 100 ∧ Z 1 ≠ 108) ∨ (Z 0 = 100 ∧ Z 1 = 108 ∧ Z 2 ≠ 49) := by
    unfold headZ at hh
    omega
  clear hx hy hB hc hh
  generalize Z 0 = z0 at c0 hcs
  generalize Z 1 = z1 at c1 hcs
  generalize Z 2 = z2 at c2 hcs
  rcases hcs with h | ⟨rfl, h⟩ | ⟨rfl, rfl, h⟩
  · have hb : (z0 != 100) = true := by rw [bne_iff_ne]; exact h
    clear h
    go_wp2_with fail
    refine bodyPost_ret (results_row_tmp2 rfl _ _ _ _ rfl (run_pg HF.out.1)) rfl ?_
    exact ⟨_, rfl, fun _ => rfl, fun h => absurd h (by decide), HF.out.2⟩
  · have hb : (z1 != 108) = true := by rw [bne_iff_ne]; exact h
    clear h
    go_wp2_with fail
    refine bodyPost_ret (results_row_tmp2 rfl _ _ _ _ rfl (run_pg HF.out.1)) rfl ?_
    exact ⟨_, rfl, fun _ => rfl, fun h => absurd h (by decide), HF.out.2⟩
  · have hb : (z2 != 49) = true := by rw [bne_iff_ne]; exact h
    clear h
    go_wp2_with fail
    refine bodyPost_ret (results_row_tmp2 rfl _ _ _ _ rfl (run_pg HF.out.1)) rfl ?_
    exact ⟨_, rfl, fun _ => rfl, fun h => absurd h (by decide), HF.out.2⟩

theorem at_int (A : Option Addr) (len cap i size : Nat) (Z : Nat → Int) {ii sz : Int} (hi : ii = (i : Int)) (hsz : sz = (size : Int)) (w : World) (hl : len ≤ 1000000) (hs : size ≤ 4) (hov : i + size ≤ len)
    (hsl : Sl w A len (fun i => .int .u8 (Z i))) (hz : ∀ i, i < len → 0 ≤ Z i ∧ Z i ≤ 255) :
    Calls Tryd.prog 40 #[.slice A len cap, .int .i64 ii, .int .i64 sz] w fun e w' => e = .returned (.int .i64 (numAt Z i size)) ∧ w = w' := by
  subst hi hsz
  exact at_any A len cap i size Z w hl hs hov hsl hz

/-- What is told of zeros in the result's block. -/
theorem RfInv.told {w wr : World} {nb pb : Nat} {v vm : Value} {vs : List Value} {LL : List (List Ins)} {M : List Int} {room : Int} (h : RfInv w wr nb pb v vm vs LL M room) :
    Blk (((wr.setCell ⟨w.heap.size, 0, none⟩ (.slice none 0 0)).setCell ⟨w.heap.size, 1, none⟩ (.slice none 0 0)).setCell ⟨w.heap.size, 2, none⟩ (.int .i64 0)) w.heap.size 38 #[.slice none 0 0, .slice none 0 0, .int .i64 0] ∧
      Below w.heap.size w (((wr.setCell ⟨w.heap.size, 0, none⟩ (.slice none 0 0)).setCell ⟨w.heap.size, 1, none⟩ (.slice none 0 0)).setCell ⟨w.heap.size, 2, none⟩ (.int .i64 0)) :=
  ⟨h.back.set3 _ _ _, below_set3 h.below (Nat.le_refl _) _ _ _⟩
theorem RfInv.cells {w wr : World} {nb pb : Nat} {v vm : Value} {vs : List Value} {LL : List (List Ins)} {M : List Int} {room : Int} (h : RfInv w wr nb pb v vm vs LL M room) :
    (wr.cell? ⟨w.heap.size, 0, none⟩ = some (.slice none 0 0) ∧ wr.cell? ⟨w.heap.size, 1, none⟩ = some (.slice none 0 0) ∧ wr.cell? ⟨w.heap.size, 2, none⟩ = some (.int .i64 0)) ∧
    (wr.frozen? ⟨w.heap.size, 0, none⟩ = false ∧ wr.frozen? ⟨w.heap.size, 1, none⟩ = false ∧ wr.frozen? ⟨w.heap.size, 2, none⟩ = false) ∧
    (wr.cell? ⟨nb, 0, none⟩ = some (.slice none 0 0) ∧ wr.cell? ⟨nb, 1, none⟩ = some (.slice none 0 0) ∧ wr.cell? ⟨nb, 2, none⟩ = some (.int .i64 0)) ∧
    (wr.cell? ⟨pb, 0, none⟩ = some v ∧ wr.cell? ⟨pb, 1, none⟩ = some vm ∧ wr.cell? ⟨pb, 2, none⟩ = some (.int .i64 room)) :=
  ⟨⟨(h.back.cell 0).trans rfl, (h.back.cell 1).trans rfl, (h.back.cell 2).trans rfl⟩, ⟨h.back.frozen 0, h.back.frozen 1, h.back.frozen 2⟩, ⟨(h.zero.cell 0).trans rfl, (h.zero.cell 1).trans rfl, (h.zero.cell 2).trans rfl⟩, (h.blk.cell 0).trans rfl, (h.blk.cell 1).trans rfl, (h.blk.cell 2).trans rfl⟩

set_option maxRecDepth 100000 in
set_option maxHeartbeats 4000000 in
theorem refRead_main (A : Option Addr) (len cap : Nat) (Z : Nat → Int) (h3 : 3 ≤ len) (hl : len ≤ 1000000) (w : World) (hsl : Sl w A len (fun i => .int .u8 (Z i))) (hz : ∀ i, i < len → 0 ≤ Z i ∧ Z i ≤ 255) (hh : headZ Z)
    (n e : Int) (hO : RdO Z len n e) : Calls Tryd.prog 29 #[.slice A len cap] w (RdPost Z len n e w) := by
  obtain ⟨b, off, rfl, hblt, hcc⟩ := hsl (by omega)
  have hB := ((Below.refl w.heap.size w).alloc (Nat.le_refl _) (Obj.cells #[.slice none 0 0, .slice none 0 0, .int .i64 0] 38)).alloc (by simp) (Obj.cells #[.slice none 0 0, .slice none 0 0, .int .i64 0] 38)
  have hx := (Blk.new w 38 #[.slice none 0 0, .slice none 0 0, .int .i64 0]).alloc (Obj.cells #[.slice none 0 0, .slice none 0 0, .int .i64 0] 38)
  have hy := Blk.new2 w (Obj.cells #[.slice none 0 0, .slice none 0 0, .int .i64 0] 38) 38 #[.slice none 0 0, .slice none 0 0, .int .i64 0]
  have hsz0 : ((w.alloc (Obj.cells #[.slice none 0 0, .slice none 0 0, .int .i64 0] 38)).alloc (Obj.cells #[.slice none 0 0, .slice none 0 0, .int .i64 0] 38)).heap.size = w.heap.size + 2 := by simp
  have h3' : ¬ (len : Int) < 3 := by omega
  have hEz := endZ_ge (Z := Z)
  have HE := Lib.hid hh
  obtain ⟨e0, e1, e2⟩ := hh
  have c0 := hcc 0 (by omega)
  have c1 := hcc 1 (by omega)
  have c2 := hcc 2 (by omega)
  dsimp only at c0 c1 c2
  rw [Nat.add_zero] at c0
  rw [e0] at c0
  rw [e1] at c1
  rw [e2] at c2
  replace c0 := keepAt hB hblt c0
  replace c1 := keepAt hB hblt c1
  replace c2 := keepAt hB hblt c2
  have hl0 : (0 : Int) < (len : Int) := by omega
  have hl1 : (1 : Int) < (len : Int) := by omega
  have hl2 : (2 : Int) < (len : Int) := by omega
  have HC := Lib.hid (And.intro hcc hz)
  have HO := Lib.hid hO
  clear e0 e1 e2 hcc hz hO hsl
  go_enter Tryd.func29, Tryd.ntmps29
  go_upto_region 2 with fail
  obtain ⟨w0, hw0⟩ : ∃ w0, (w.alloc (Obj.cells #[.slice none 0 0, .slice none 0 0, .int .i64 0] 38)).alloc (Obj.cells #[.slice none 0 0, .slice none 0 0, .int .i64 0] 38) = w0 := ⟨_, rfl⟩
  rw [hw0] at hB hx hy c0 c1 c2 hsz0 ⊢
  clear hw0
  by_cases h7 : len < 7
  · obtain ⟨rfl, rfl⟩ := rdO_short h3 HE.out (by omega) HO.out
    have h7' : (len : Int) < 7 := by omega
    have f0 := hx.frozen 0
    have f1 := hx.frozen 1
    have f2 := hx.frozen 2
    have x0 := hx.cell 0
    have x1 := hx.cell 1
    have x2 := hx.cell 2
    have y0 := hy.cell 0
    have y1 := hy.cell 1
    have y2 := hy.cell 2
    simp only [List.getElem?_toArray, List.getElem?_cons_zero, List.getElem?_cons_succ] at x0 x1 x2 y0 y1 y2
    have HF := Lib.hid (And.intro (hx.set3 (.slice none 0 0) (.slice none 0 0) (.int .i64 0)) (below_set3 hB (Nat.le_refl _) (.slice none 0 0) (.slice none 0 0) (.int .i64 0)))
    clear hx hy hB hsz0
    go_wp2_with fail
    refine bodyPost_ret (results_row_tmp2 rfl _ _ _ _ rfl (run_pg HF.out.1)) rfl ?_
    exact ⟨_, rfl, fun _ => rfl, fun h => absurd h (by decide), HF.out.2⟩
  have h7' : ¬ (len : Int) < 7 := by omega
  have hl4 : (4 : Int) < (len : Int) := by omega
  have hl3 : (3 : Int) < (len : Int) := by omega
  have c4 := keepAt hB hblt (HC.out.1 4 (by omega))
  dsimp only at c4
  have hz4 := HC.out.2 4 (by omega)
  have hz3 := HC.out.2 3 (by omega)
  obtain ⟨room, hroom⟩ : ∃ room, Z 4 = room := ⟨_, rfl⟩
  rw [hroom] at c4 hz4
  obtain ⟨N, hN⟩ : ∃ N : Nat, Z 3 = (N : Int) := ⟨(Z 3).toNat, by omega⟩
  rw [hN] at hz3
  have hN255 : N ≤ 255 := by omega
  have bn := numAt_lt Z 2 5 (fun i hi => HC.out.2 i (by omega))
  obtain ⟨m, hm⟩ : ∃ m : Nat, numAt Z 5 2 = (m : Int) := ⟨(numAt Z 5 2).toNat, by omega⟩
  have hmN : memN Z = m := by unfold memN; rw [hm]; rfl
  rw [hm] at bn
  have hm2 : m ≤ 65535 := by omega
  rw [hmN] at hEz
  have hend : endZ Z = codePos Z (7 + 4 * m) N := by unfold endZ; rw [hmN, hN]; rfl
  have hI : RfInv w (w0.alloc (Obj.cells #[.slice none 0 0, .slice none 0 0, .int .i64 room] 38)) (w.heap.size + 1) w0.heap.size (.slice none 0 0) (.slice none 0 0) [] [] (memL Z 0) room :=
    { vl := rfl
      blk := Blk.new w0 _ _
      outer := ⟨rfl, .inl ⟨rfl, rfl⟩⟩
      inner := fun t ht => absurd ht (by simp)
      mem := ⟨rfl, .inl ⟨rfl, rfl⟩⟩
      back := hx.alloc _
      zero := hy.alloc _
      below := hB.alloc hB.size _
      o1 := by omega
      o2 := by omega
      o3 := (Blk.new w0 38 #[.slice none 0 0, .slice none 0 0, .int .i64 room]).lt }
  have HN := Lib.hid (And.intro hN (And.intro hm (And.intro hmN (And.intro hend hroom))))
  have HZ := Lib.hid hEz
  obtain ⟨hr0, hr1⟩ := hz4
  clear hx hy hB hsz0 bn hz3 hN hm hmN hend hroom hEz
  go_upto_region 9 with fail
  clear c0 c1 c2 c4
  obtain ⟨w1, hw1⟩ : ∃ w1, w0.alloc (Obj.cells #[.slice none 0 0, .slice none 0 0, .int .i64 room] 38) = w1 := ⟨_, rfl⟩
  rw [hw1] at hI ⊢
  clear hw1
  obtain ⟨pb, hpb⟩ : ∃ pb, w0.heap.size = pb := ⟨_, rfl⟩
  rw [hpb] at hI ⊢
  clear hpb
  obtain ⟨nb, hnb⟩ : ∃ nb, w.heap.size + 1 = nb := ⟨_, rfl⟩
  rw [hnb] at hI ⊢
  clear hnb
  have hS : ∀ W, Below w.heap.size w W → Sl W (some ⟨b, off, none⟩) len (fun i => .int .u8 (Z i)) := fun W hW _ => ⟨b, off, rfl, Nat.lt_of_lt_of_le hblt hW.size, fun i hi => keepAt hW hblt (HC.out.1 i hi)⟩
  have HS := Lib.hid hS
  clear hS
  have c9 := at_int (some ⟨b, off, none⟩) len cap 5 2 Z (ii := 5) (sz := 2) rfl rfl w1 hl (by omega) (by omega) (HS.out _ hI.below) HC.out.2
  rw [HN.out.2.1] at c9
  have HI := Lib.hid hI
  clear hI
  go_wp2_with fail
  refine c9.mono ?_
  rintro e9 w9 ⟨rfl, rfl⟩
  clear c9
  have hI := HI.out
  clear HI
  by_cases hw : len < 7 + 4 * m
  · obtain ⟨rfl, rfl⟩ := rdO_short h3 HE.out (by have := HZ.out; omega) HO.out
    have hw' : (len : Int) < 7 + 4 * (m : Int) := by omega
    have HF := Lib.hid hI.told
    obtain ⟨⟨x0, x1, x2⟩, ⟨f0, f1, f2⟩, ⟨y0, y1, y2⟩, _⟩ := hI.cells
    clear hI
    go_wp2_with fail
    refine bodyPost_ret (results_row_tmp2 rfl _ _ _ _ rfl (run_pg HF.out.1)) rfl ?_
    exact ⟨_, rfl, fun _ => rfl, fun h => absurd h (by decide), HF.out.2⟩
  have hw' : ¬ (len : Int) < 7 + 4 * (m : Int) := by omega
  have HI := Lib.hid hI
  clear hI
  go_wp2_with fail
  obtain ⟨i0, hi, hy0, hy1, hy2⟩ := info_parts u32_info
  obtain ⟨i1, ik, ik0, ik1, ik2⟩ := info_parts code_info
  obtain ⟨j0, hj, hj0, hj1, hj2⟩ := info_parts instr_info
  go_loopw [9] (fun i wr => ∃ (k : Nat) (vm : Value), k ≤ m ∧ i = .int .i64 k ∧ RfInv w wr nb pb (.slice none 0 0) vm [] [] (memL Z k) room) (fun i _ => m - (intOf i).toNat)
  case atStart => exact ⟨0, _, Nat.zero_le _, rfl, HI.out⟩
  case round =>
    clear HI
    obtain ⟨k, vm, hkm, rfl, hI⟩ := hrel
    by_cases hlt : k < m
    · have hlt' : (k : Int) < (m : Int) := by omega
      have hmem := hI.mem
      rw [memL_len] at hmem
      obtain ⟨vA, vc, rfl, _, _⟩ := own_sl hmem
      clear hmem
      obtain ⟨q, hqq⟩ : ∃ q, 7 + 4 * k = q := ⟨_, rfl⟩
      have hqi : 7 + 4 * (k : Int) = (q : Int) := by omega
      have bz := numAt_lt Z 4 q (fun i hi => HC.out.2 i (by omega))
      obtain ⟨z4, hq4⟩ : ∃ z, numAt Z q 4 = z := ⟨_, rfl⟩
      rw [hq4] at bz
      obtain ⟨bz0, bz1⟩ := bz
      have bz2 : z4 ≤ 4294967295 := by omega
      clear bz1
      have hqlen : q + 4 ≤ len := by omega
      have HQ := Lib.hid (And.intro hqq (And.intro hq4 hqi))
      have HI := Lib.hid hI
      clear hI hqq hqi hq4
      go_upto_region 16 with fail
      have hwA : IntKind.i64.wrap (4 * (k : Int)) = 4 * (k : Int) := IntWalk.i64_in _ (by omega)
      have hwB : IntKind.i64.wrap (7 + 4 * (k : Int)) = (q : Int) := by rw [IntWalk.i64_in _ (by omega)]; exact HQ.out.2.2
      have hwC : IntKind.u32.wrap z4 = z4 := IntWalk.u32_in _ (by omega)
      refine startG (fun W' => W'.cell? ⟨pb, 1, none⟩ = some (.slice vA k vc)) 11 (by kernel_rfl) ?_
      have hI := HI.out.drew
      clear HI
      generalize wr.drew = W0 at hI ⊢
      have hH : W0.cell? ⟨pb, 1, none⟩ = some (.slice vA k vc) := (hI.blk.cell 1).trans rfl
      have hb0 := hI.below
      have c6 := at_int (some ⟨b, off, none⟩) len cap q 4 Z (ii := (q : Int)) (sz := 4) rfl rfl W0 hl (by omega) (by omega) (HS.out _ hb0) HC.out.2
      rw [HQ.out.2.1] at c6
      try simp only [Act.put, List.setIfInBounds_toArray, List.set_cons_zero, List.set_cons_succ]
      refine takeG (i := 0) (v := .pointer (some ⟨pb, 1, none⟩)) rfl (by kernel_rfl) (by kernel_rfl) (by kernel_rfl) (by kernel_rfl) (fun _ _ _ h => h) (Or.inl ⟨by rfl, fun W hW => by go_simp⟩) hH ?_
      try simp only [Act.put, List.setIfInBounds_toArray, List.set_cons_zero, List.set_cons_succ]
      refine takeG (i := 1) (v := .slice vA k vc) rfl (by kernel_rfl) (by kernel_rfl) (by kernel_rfl) (by kernel_rfl) (fun _ _ _ h => h) (Or.inl ⟨by rfl, fun W hW => by go_simp⟩) hH ?_
      try simp only [Act.put, List.setIfInBounds_toArray, List.set_cons_zero, List.set_cons_succ]
      refine takeG (i := 2) (v := .slice (some ⟨b, off, none⟩) len cap) rfl (by kernel_rfl) (by kernel_rfl) (by kernel_rfl) (by kernel_rfl) (fun _ _ _ h => h) (Or.inl ⟨by rfl, fun W hW => by go_simp⟩) hH ?_
      try simp only [Act.put, List.setIfInBounds_toArray, List.set_cons_zero, List.set_cons_succ]
      refine takeG (i := 3) (v := .int .i64 (k : Int)) rfl (by kernel_rfl) (by kernel_rfl) (by kernel_rfl) (by kernel_rfl) (fun _ _ _ h => h) (Or.inl ⟨by rfl, fun W hW => by go_simp⟩) hH ?_
      try simp only [Act.put, List.setIfInBounds_toArray, List.set_cons_zero, List.set_cons_succ]
      refine takeG (i := 4) (v := .int .i64 (4 * (k : Int))) rfl (by kernel_rfl) (by kernel_rfl) (by kernel_rfl) (by kernel_rfl) (fun _ _ _ h => h) (Or.inl ⟨by rfl, fun W hW => by go_simp⟩) hH ?_
      try simp only [Act.put, List.setIfInBounds_toArray, List.set_cons_zero, List.set_cons_succ]
      refine takeG (i := 5) (v := .int .i64 (q : Int)) rfl (by kernel_rfl) (by kernel_rfl) (by kernel_rfl) (by kernel_rfl) (fun _ _ _ h => h) (Or.inl ⟨by rfl, fun W hW => by go_simp⟩) hH ?_
      try simp only [Act.put, List.setIfInBounds_toArray, List.set_cons_zero, List.set_cons_succ]
      refine onlyG (i := 6) (by kernel_rfl) rfl (fun K hK => ?_)
      go_simp
      refine c6.mono ?_
      rintro e6 w6 ⟨rfl, rfl⟩
      go_wp2_with fail
      refine hK.out _ _ hH (fun _ => ?_)
      clear hK K c6
      try simp only [Act.put, List.setIfInBounds_toArray, List.set_cons_zero, List.set_cons_succ]
      refine takeG (i := 7) (v := .int .u32 z4) rfl (by kernel_rfl) (by kernel_rfl) (by kernel_rfl) (by kernel_rfl) (fun _ _ _ h => h) (Or.inl ⟨by rfl, fun W hW => by go_simp⟩) hH ?_
      try simp only [Act.put, List.setIfInBounds_toArray, List.set_cons_zero, List.set_cons_succ]
      refine onlyG (i := 8) (by kernel_rfl) rfl (fun K hK => ?_)
      go_simp
      have hI4 := hI.down ((Below.refl W0.heap.size W0).alloc (Nat.le_refl _) (.cells #[.int .u32 z4] 22))
      have hown4 := hI4.mem
      have hsl4 := sl_new W0 22 [.int .u32 z4]
      have hone : ∀ k, k < 1 * 1 → ([Value.int .u32 z4].getD k undef).oneCell' = true := fun k hk => by
        obtain rfl : k = 0 := by omega
        rfl
      have hbase : pb + 1 ≤ (W0.alloc (.cells #[.int .u32 z4] 22)).heap.size := hI4.o3
      have hc4 : (W0.alloc (.cells #[.int .u32 z4] 22)).cell? ⟨pb, 1, none⟩ = some (.slice vA k vc) := (hI4.blk.cell 1).trans rfl
      refine hK.out _ _ hc4 (fun _ => ?_)
      clear hK K
      try simp only [Act.put, List.setIfInBounds_toArray, List.set_cons_zero, List.set_cons_succ]
      refine onlyG (i := 9) (by kernel_rfl) rfl (fun K hK => ?_)
      rw [if_pos (by rfl)]
      refine wp_append_sl _ (.tmp 71) (.tmp 78) 36 rfl (pb + 1) 22 i0 _ 1 4 Tryd.underlying36 hi hy0 hy1 hy2 rfl (by omega) _ (memL Z k).length _ (by show Value.slice vA k vc = _; rfl) hown4 _ 1 _ (fun i => [Value.int .u32 z4].getD i undef) rfl hsl4 hone (by rw [memL_len]; unfold maxLen; omega) (by rw [memL_len]; omega) hbase ?_
      intro v' w5 hown5 hg5 _
      rw [range_getD [Value.int .u32 z4] (1 * 1) rfl] at hown5
      have hI5 := hI.word hown4 hg5 hown5
      rw [← HQ.out.2.1, ← HQ.out.1, ← memL_succ] at hI5
      obtain ⟨nA, nc, rfl, _, _⟩ := own_sl hown5
      have hb5 := hI4.blk.grow_own hown4 hg5 (by omega)
      have f1 := hb5.frozen 1
      have q1 := (hb5.cell 1).trans rfl
      refine hK.out _ _ q1 (fun _ => ?_)
      clear hK K hI4 hown4 hsl4 hone hbase hg5 hown5 hI hb5 hc4
      have HI := Lib.hid hI5
      clear hI5
      try simp only [Act.put, List.setIfInBounds_toArray, List.set_cons_zero, List.set_cons_succ]
      refine takeG0 (i := 10) (v := .pointer (some ⟨pb, 1, none⟩)) rfl (by kernel_rfl) (by kernel_rfl) (by kernel_rfl) (by kernel_rfl) (fun _ _ _ h => h) (Or.inl ⟨by rfl, fun W hW => by go_simp⟩) q1 ?_
      try simp only [Act.put, List.setIfInBounds_toArray, List.set_cons_zero, List.set_cons_succ]
      refine lastG (by kernel_rfl) rfl (by kernel_rfl) (fun K hK => ?_)
      go_simp
      refine hK.out _ _ ?_
      clear hK K
      try simp only [Act.put, List.setIfInBounds_toArray, List.set_cons_zero, List.set_cons_succ]
      go_wp2_with fail
      go_roundw
      case rel => exact ⟨k + 1, _, by omega, by go_num, HI.out⟩
      case measure => simp [intOf]; omega
    · obtain rfl : m = k := by omega
      have hlt' : ¬ (m : Int) < (m : Int) := by omega
      have HI := Lib.hid hI
      clear hI
      go_wp2_with fail
      go_loopw [8, 10] (fun q t wr => ∃ (k q2 : Nat) (v vm : Value) (vs : List Value), k ≤ N ∧ t = .int .i64 k ∧ q = .int .i64 q2 ∧ codePos Z (7 + 4 * m) k = q2 ∧ q2 ≤ len ∧ RfInv w wr nb pb v vm vs (codesL Z (7 + 4 * m) k) (memL Z m) room) (fun _ t _ => N - (intOf t).toNat)
      case atStart => exact ⟨0, 7 + 4 * m, _, _, [], Nat.zero_le _, rfl, by go_num, rfl, by omega, HI.out⟩
      case round =>
        clear HI
        obtain ⟨k, q2, v, vm, vs, hkN, rfl, rfl, hq2, hql, hI⟩ := hrel
        have k3 : wr.cell? ⟨b, off + 3, none⟩ = some (.int .u8 (N : Int)) := by
          have := keepAt hI.below hblt (HC.out.1 3 (by omega))
          rw [HN.out.1] at this
          exact this
        have HQ := Lib.hid hq2
        clear hq2
        by_cases hlt : k < N
        · have hlt' : (k : Int) < (N : Int) := by omega
          have hmono : codeEnd Z q2 ≤ endZ Z := by
            rw [HN.out.2.2.2.1, ← HQ.out]
            exact codePos_mono (Z := Z) (7 + 4 * m) (show k + 1 ≤ N by omega)
          unfold codeEnd at hmono
          have HM := Lib.hid hmono
          clear hmono
          by_cases h2 : q2 + 2 ≤ len
          · have h2' : ¬ (len : Int) < (q2 : Int) + 2 := by omega
            have bnn := numAt_lt Z 2 q2 (fun i hi => HC.out.2 i (by omega))
            have c9 := at_int (some ⟨b, off, none⟩) len cap q2 2 Z (ii := (q2 : Int)) (sz := 2) rfl rfl wr hl (by omega) (by omega) (HS.out _ hI.below) HC.out.2
            obtain ⟨nn, hnn⟩ : ∃ nn : Nat, numAt Z q2 2 = (nn : Int) := ⟨(numAt Z q2 2).toNat, by omega⟩
            rw [hnn] at c9 bnn
            have hnn2 : nn ≤ 65535 := by omega
            have HNN := Lib.hid hnn
            have HI := Lib.hid hI
            clear hnn bnn hI
            go_wp2_with fail
            refine c9.mono ?_
            rintro e9 w9 ⟨rfl, rfl⟩
            clear c9
            have hI := HI.out
            clear HI
            by_cases h8 : q2 + 2 + 8 * nn ≤ len
            · have h8' : ¬ (len : Int) < (q2 : Int) + 2 + 8 * (nn : Int) := by omega
              have HI := Lib.hid hI
              have hIb := hI.below
              clear hI
              go_wp2_with fail
              obtain ⟨wo, rfl⟩ : ∃ wo : World, wo = wr := ⟨_, rfl⟩
              go_loopw [12, 13] (fun l i wi => ∃ j : Nat, j ≤ nn ∧ i = .int .i64 j ∧ wi.ownsRow wo.heap.size 24 5 l j ((insL Z (q2 + 2) j).flatMap Ins.cells) ∧ Below wo.heap.size wo wi) (fun _ i _ => nn - (intOf i).toNat)
              case atStart => exact ⟨0, Nat.zero_le _, rfl, ⟨rfl, .inl ⟨rfl, rfl⟩⟩, Below.refl _ _⟩
              case round =>
                obtain ⟨wi, rfl⟩ : ∃ wi : World, wi = wr := ⟨_, rfl⟩
                obtain ⟨j, hjn, rfl, hown, hbi⟩ := hrel
                obtain ⟨lA, lc, rfl, _, _⟩ := own_sl hown
                have HW := Lib.hid (And.intro hown hbi)
                clear hown hbi
                by_cases hlj : j < nn
                · have hlj' : (j : Int) < (nn : Int) := by omega
                  obtain ⟨q, hqe⟩ : ∃ q, q2 + 2 + 8 * j = q := ⟨_, rfl⟩
                  have hqi : (q2 : Int) + 2 + 8 * (j : Int) = (q : Int) := by omega
                  have hq8 : q + 8 ≤ len := by omega
                  have HQE := Lib.hid (And.intro hqe hqi)
                  clear hqe hqi k3
                  go_upto_region 30 with fail
                  rw [HQE.out.2]
                  obtain ⟨z0, hz0⟩ : ∃ z, Z q = z := ⟨_, rfl⟩
                  obtain ⟨z1, hz1⟩ : ∃ z, Z (q + 1) = z := ⟨_, rfl⟩
                  obtain ⟨z2, hz2⟩ : ∃ z, Z (q + 2) = z := ⟨_, rfl⟩
                  obtain ⟨z3, hz3⟩ : ∃ z, Z (q + 3) = z := ⟨_, rfl⟩
                  obtain ⟨z4, hz4⟩ : ∃ z, numAt Z (q + 4) 4 = z := ⟨_, rfl⟩
                  have b0 := HC.out.2 q (by omega)
                  have b1 := HC.out.2 (q + 1) (by omega)
                  have b2 := HC.out.2 (q + 2) (by omega)
                  have b3 := HC.out.2 (q + 3) (by omega)
                  have b4 := numAt_lt Z 4 (q + 4) (fun i hi => HC.out.2 i (by omega))
                  rw [hz0] at b0
                  rw [hz1] at b1
                  rw [hz2] at b2
                  rw [hz3] at b3
                  rw [hz4] at b4
                  obtain ⟨b00, b01⟩ := b0
                  obtain ⟨b10, b11⟩ := b1
                  obtain ⟨b20, b21⟩ := b2
                  obtain ⟨b30, b31⟩ := b3
                  obtain ⟨b40, b41⟩ := b4
                  have b42 : z4 ≤ 4294967295 := by omega
                  have w1e : IntKind.i64.wrap ((q : Int) + 1) = (q : Int) + 1 := IntWalk.i64_in _ (by omega)
                  have w2e : IntKind.i64.wrap ((q : Int) + 2) = (q : Int) + 2 := IntWalk.i64_in _ (by omega)
                  have w3e : IntKind.i64.wrap ((q : Int) + 3) = (q : Int) + 3 := IntWalk.i64_in _ (by omega)
                  have w4e : IntKind.i64.wrap ((q : Int) + 4) = (q : Int) + 4 := IntWalk.i64_in _ (by omega)
                  have hl0 : (q : Int) < (len : Int) := by omega
                  have hl1 : (q : Int) + 1 < (len : Int) := by omega
                  have hl2 : (q : Int) + 2 < (len : Int) := by omega
                  have hl3 : (q : Int) + 3 < (len : Int) := by omega
                  have t1 : ((q : Int) + 1).toNat = q + 1 := by omega
                  have t2 : ((q : Int) + 2).toNat = q + 2 := by omega
                  have t3 : ((q : Int) + 3).toNat = q + 3 := by omega
                  have hwC : IntKind.u32.wrap z4 = z4 := IntWalk.u32_in _ (by omega)
                  have p1 : (0 : Int) ≤ (q : Int) + 1 := by omega
                  have p2 : (0 : Int) ≤ (q : Int) + 2 := by omega
                  have p3 : (0 : Int) ≤ (q : Int) + 3 := by omega
                  have v0 : IntKind.i64.wrap z0 = z0 := IntWalk.i64_in _ (by omega)
                  have v1 : IntKind.i64.wrap z1 = z1 := IntWalk.i64_in _ (by omega)
                  have v2 : IntKind.i64.wrap z2 = z2 := IntWalk.i64_in _ (by omega)
                  have v3 : IntKind.i64.wrap z3 = z3 := IntWalk.i64_in _ (by omega)
                  refine startG (fun W' => W'.cell? ⟨b, off + q, none⟩ = some (.int .u8 z0) ∧ W'.cell? ⟨b, off + (q + 1), none⟩ = some (.int .u8 z1) ∧ W'.cell? ⟨b, off + (q + 2), none⟩ = some (.int .u8 z2) ∧ W'.cell? ⟨b, off + (q + 3), none⟩ = some (.int .u8 z3)) 32 (by kernel_rfl) ?_
                  have hown := HW.out.1.drew
                  have hbi := HW.out.2.drew
                  clear HW
                  generalize wi.drew = W0 at hown hbi ⊢
                  have hk : ∀ j, j < len → W0.cell? ⟨b, off + j, none⟩ = some (.int .u8 (Z j)) := fun j hj => keepAt (step_below hIb hbi) hblt (HC.out.1 j hj)
                  have hH : W0.cell? ⟨b, off + q, none⟩ = some (.int .u8 z0) ∧ W0.cell? ⟨b, off + (q + 1), none⟩ = some (.int .u8 z1) ∧ W0.cell? ⟨b, off + (q + 2), none⟩ = some (.int .u8 z2) ∧ W0.cell? ⟨b, off + (q + 3), none⟩ = some (.int .u8 z3) := ⟨by rw [hk q (by omega), hz0], by rw [hk (q + 1) (by omega), hz1], by rw [hk (q + 2) (by omega), hz2], by rw [hk (q + 3) (by omega), hz3]⟩
                  have c6 := at_int (some ⟨b, off, none⟩) len cap (q + 4) 4 Z (ii := (q : Int) + 4) (sz := 4) (by omega) rfl W0 hl (by omega) (by omega) (HS.out _ (step_below hIb hbi)) HC.out.2
                  rw [hz4] at c6
                  clear hk
                  have hbl0 : b < W0.heap.size := Nat.lt_of_lt_of_le hblt (step_below hIb hbi).size
                  try simp only [Act.put, List.setIfInBounds_toArray, List.set_cons_zero, List.set_cons_succ]
                  refine takeG (i := 0) (v := .slice lA j lc) rfl (by kernel_rfl) (by kernel_rfl) (by kernel_rfl) (by kernel_rfl) (fun _ _ _ h => h) (Or.inl ⟨by rfl, fun W hW => by go_simp⟩) hH ?_
                  try simp only [Act.put, List.setIfInBounds_toArray, List.set_cons_zero, List.set_cons_succ]
                  refine takeG (i := 1) (v := .slice (some ⟨b, off, none⟩) len cap) rfl (by kernel_rfl) (by kernel_rfl) (by kernel_rfl) (by kernel_rfl) (fun _ _ _ h => h) (Or.inl ⟨by rfl, fun W hW => by go_simp⟩) hH ?_
                  try simp only [Act.put, List.setIfInBounds_toArray, List.set_cons_zero, List.set_cons_succ]
                  refine takeG (i := 2) (v := .int .i64 (q : Int)) rfl (by kernel_rfl) (by kernel_rfl) (by kernel_rfl) (by kernel_rfl) (fun _ _ _ h => h) (Or.inl ⟨by rfl, fun W hW => by go_simp⟩) hH ?_
                  try simp only [Act.put, List.setIfInBounds_toArray, List.set_cons_zero, List.set_cons_succ]
                  refine takeG (i := 3) (v := .pointer (some ⟨b, off + q, none⟩)) rfl (by kernel_rfl) (by kernel_rfl) (by kernel_rfl) (by kernel_rfl) (fun _ _ _ h => h) (Or.inl ⟨by rfl, fun W hW => by go_simp⟩) hH ?_
                  try simp only [Act.put, List.setIfInBounds_toArray, List.set_cons_zero, List.set_cons_succ]
                  refine takeG (i := 4) (v := .int .u8 z0) rfl (by kernel_rfl) (by kernel_rfl) (by kernel_rfl) (by kernel_rfl) (fun _ _ _ h => h) (Or.inl ⟨by rfl, fun W hW => by have ⟨s0, s1, s2, s3⟩ := hW; go_simp⟩) hH ?_
                  try simp only [Act.put, List.setIfInBounds_toArray, List.set_cons_zero, List.set_cons_succ]
                  refine takeG (i := 5) (v := .int .i64 z0) rfl (by kernel_rfl) (by kernel_rfl) (by kernel_rfl) (by kernel_rfl) (fun _ _ _ h => h) (Or.inl ⟨by rfl, fun W hW => by go_simp⟩) hH ?_
                  try simp only [Act.put, List.setIfInBounds_toArray, List.set_cons_zero, List.set_cons_succ]
                  refine takeG (i := 6) (v := .slice (some ⟨b, off, none⟩) len cap) rfl (by kernel_rfl) (by kernel_rfl) (by kernel_rfl) (by kernel_rfl) (fun _ _ _ h => h) (Or.inl ⟨by rfl, fun W hW => by go_simp⟩) hH ?_
                  try simp only [Act.put, List.setIfInBounds_toArray, List.set_cons_zero, List.set_cons_succ]
                  refine takeG (i := 7) (v := .int .i64 (q : Int)) rfl (by kernel_rfl) (by kernel_rfl) (by kernel_rfl) (by kernel_rfl) (fun _ _ _ h => h) (Or.inl ⟨by rfl, fun W hW => by go_simp⟩) hH ?_
                  try simp only [Act.put, List.setIfInBounds_toArray, List.set_cons_zero, List.set_cons_succ]
                  refine takeG (i := 8) (v := .int .i64 ((q : Int) + 1)) rfl (by kernel_rfl) (by kernel_rfl) (by kernel_rfl) (by kernel_rfl) (fun _ _ _ h => h) (Or.inl ⟨by rfl, fun W hW => by go_simp⟩) hH ?_
                  try simp only [Act.put, List.setIfInBounds_toArray, List.set_cons_zero, List.set_cons_succ]
                  refine takeG (i := 9) (v := .pointer (some ⟨b, off + (q + 1), none⟩)) rfl (by kernel_rfl) (by kernel_rfl) (by kernel_rfl) (by kernel_rfl) (fun _ _ _ h => h) (Or.inl ⟨by rfl, fun W hW => by go_simp⟩) hH ?_
                  try simp only [Act.put, List.setIfInBounds_toArray, List.set_cons_zero, List.set_cons_succ]
                  refine takeG (i := 10) (v := .int .u8 z1) rfl (by kernel_rfl) (by kernel_rfl) (by kernel_rfl) (by kernel_rfl) (fun _ _ _ h => h) (Or.inl ⟨by rfl, fun W hW => by have ⟨s0, s1, s2, s3⟩ := hW; go_simp⟩) hH ?_
                  try simp only [Act.put, List.setIfInBounds_toArray, List.set_cons_zero, List.set_cons_succ]
                  refine takeG (i := 11) (v := .int .i64 z1) rfl (by kernel_rfl) (by kernel_rfl) (by kernel_rfl) (by kernel_rfl) (fun _ _ _ h => h) (Or.inl ⟨by rfl, fun W hW => by go_simp⟩) hH ?_
                  try simp only [Act.put, List.setIfInBounds_toArray, List.set_cons_zero, List.set_cons_succ]
                  refine takeG (i := 12) (v := .slice (some ⟨b, off, none⟩) len cap) rfl (by kernel_rfl) (by kernel_rfl) (by kernel_rfl) (by kernel_rfl) (fun _ _ _ h => h) (Or.inl ⟨by rfl, fun W hW => by go_simp⟩) hH ?_
                  try simp only [Act.put, List.setIfInBounds_toArray, List.set_cons_zero, List.set_cons_succ]
                  refine takeG (i := 13) (v := .int .i64 (q : Int)) rfl (by kernel_rfl) (by kernel_rfl) (by kernel_rfl) (by kernel_rfl) (fun _ _ _ h => h) (Or.inl ⟨by rfl, fun W hW => by go_simp⟩) hH ?_
                  try simp only [Act.put, List.setIfInBounds_toArray, List.set_cons_zero, List.set_cons_succ]
                  refine takeG (i := 14) (v := .int .i64 ((q : Int) + 2)) rfl (by kernel_rfl) (by kernel_rfl) (by kernel_rfl) (by kernel_rfl) (fun _ _ _ h => h) (Or.inl ⟨by rfl, fun W hW => by go_simp⟩) hH ?_
                  try simp only [Act.put, List.setIfInBounds_toArray, List.set_cons_zero, List.set_cons_succ]
                  refine takeG (i := 15) (v := .pointer (some ⟨b, off + (q + 2), none⟩)) rfl (by kernel_rfl) (by kernel_rfl) (by kernel_rfl) (by kernel_rfl) (fun _ _ _ h => h) (Or.inl ⟨by rfl, fun W hW => by go_simp⟩) hH ?_
                  try simp only [Act.put, List.setIfInBounds_toArray, List.set_cons_zero, List.set_cons_succ]
                  refine takeG (i := 16) (v := .int .u8 z2) rfl (by kernel_rfl) (by kernel_rfl) (by kernel_rfl) (by kernel_rfl) (fun _ _ _ h => h) (Or.inl ⟨by rfl, fun W hW => by have ⟨s0, s1, s2, s3⟩ := hW; go_simp⟩) hH ?_
                  try simp only [Act.put, List.setIfInBounds_toArray, List.set_cons_zero, List.set_cons_succ]
                  refine takeG (i := 17) (v := .int .i64 z2) rfl (by kernel_rfl) (by kernel_rfl) (by kernel_rfl) (by kernel_rfl) (fun _ _ _ h => h) (Or.inl ⟨by rfl, fun W hW => by go_simp⟩) hH ?_
                  try simp only [Act.put, List.setIfInBounds_toArray, List.set_cons_zero, List.set_cons_succ]
                  refine takeG (i := 18) (v := .slice (some ⟨b, off, none⟩) len cap) rfl (by kernel_rfl) (by kernel_rfl) (by kernel_rfl) (by kernel_rfl) (fun _ _ _ h => h) (Or.inl ⟨by rfl, fun W hW => by go_simp⟩) hH ?_
                  try simp only [Act.put, List.setIfInBounds_toArray, List.set_cons_zero, List.set_cons_succ]
                  refine takeG (i := 19) (v := .int .i64 (q : Int)) rfl (by kernel_rfl) (by kernel_rfl) (by kernel_rfl) (by kernel_rfl) (fun _ _ _ h => h) (Or.inl ⟨by rfl, fun W hW => by go_simp⟩) hH ?_
                  try simp only [Act.put, List.setIfInBounds_toArray, List.set_cons_zero, List.set_cons_succ]
                  refine takeG (i := 20) (v := .int .i64 ((q : Int) + 3)) rfl (by kernel_rfl) (by kernel_rfl) (by kernel_rfl) (by kernel_rfl) (fun _ _ _ h => h) (Or.inl ⟨by rfl, fun W hW => by go_simp⟩) hH ?_
                  try simp only [Act.put, List.setIfInBounds_toArray, List.set_cons_zero, List.set_cons_succ]
                  refine takeG (i := 21) (v := .pointer (some ⟨b, off + (q + 3), none⟩)) rfl (by kernel_rfl) (by kernel_rfl) (by kernel_rfl) (by kernel_rfl) (fun _ _ _ h => h) (Or.inl ⟨by rfl, fun W hW => by go_simp⟩) hH ?_
                  try simp only [Act.put, List.setIfInBounds_toArray, List.set_cons_zero, List.set_cons_succ]
                  refine takeG (i := 22) (v := .int .u8 z3) rfl (by kernel_rfl) (by kernel_rfl) (by kernel_rfl) (by kernel_rfl) (fun _ _ _ h => h) (Or.inl ⟨by rfl, fun W hW => by have ⟨s0, s1, s2, s3⟩ := hW; go_simp⟩) hH ?_
                  try simp only [Act.put, List.setIfInBounds_toArray, List.set_cons_zero, List.set_cons_succ]
                  refine takeG (i := 23) (v := .int .i64 z3) rfl (by kernel_rfl) (by kernel_rfl) (by kernel_rfl) (by kernel_rfl) (fun _ _ _ h => h) (Or.inl ⟨by rfl, fun W hW => by go_simp⟩) hH ?_
                  try simp only [Act.put, List.setIfInBounds_toArray, List.set_cons_zero, List.set_cons_succ]
                  refine takeG (i := 24) (v := .slice (some ⟨b, off, none⟩) len cap) rfl (by kernel_rfl) (by kernel_rfl) (by kernel_rfl) (by kernel_rfl) (fun _ _ _ h => h) (Or.inl ⟨by rfl, fun W hW => by go_simp⟩) hH ?_
                  try simp only [Act.put, List.setIfInBounds_toArray, List.set_cons_zero, List.set_cons_succ]
                  refine takeG (i := 25) (v := .int .i64 (q : Int)) rfl (by kernel_rfl) (by kernel_rfl) (by kernel_rfl) (by kernel_rfl) (fun _ _ _ h => h) (Or.inl ⟨by rfl, fun W hW => by go_simp⟩) hH ?_
                  try simp only [Act.put, List.setIfInBounds_toArray, List.set_cons_zero, List.set_cons_succ]
                  refine takeG (i := 26) (v := .int .i64 ((q : Int) + 4)) rfl (by kernel_rfl) (by kernel_rfl) (by kernel_rfl) (by kernel_rfl) (fun _ _ _ h => h) (Or.inl ⟨by rfl, fun W hW => by go_simp⟩) hH ?_
                  try simp only [Act.put, List.setIfInBounds_toArray, List.set_cons_zero, List.set_cons_succ]
                  refine onlyG (i := 27) (by kernel_rfl) rfl (fun K hK => ?_)
                  go_simp
                  refine c6.mono ?_
                  rintro e6 w6 ⟨rfl, rfl⟩
                  go_wp2_with fail
                  refine hK.out _ _ hH (fun _ => ?_)
                  clear hK K c6
                  try simp only [Act.put, List.setIfInBounds_toArray, List.set_cons_zero, List.set_cons_succ]
                  refine takeG (i := 28) (v := .int .u32 z4) rfl (by kernel_rfl) (by kernel_rfl) (by kernel_rfl) (by kernel_rfl) (fun _ _ _ h => h) (Or.inl ⟨by rfl, fun W hW => by go_simp⟩) hH ?_
                  try simp only [Act.put, List.setIfInBounds_toArray, List.set_cons_zero, List.set_cons_succ]
                  refine takeG (i := 29) (v := .agg #[.int .i64 z0, .int .i64 z1, .int .i64 z2, .int .i64 z3, .int .u32 z4]) rfl (by kernel_rfl) (by kernel_rfl) (by kernel_rfl) (by kernel_rfl) (fun _ _ _ h => h) (Or.inl ⟨by rfl, fun W hW => by go_simp⟩) hH ?_
                  try simp only [Act.put, List.setIfInBounds_toArray, List.set_cons_zero, List.set_cons_succ]
                  refine onlyG (i := 30) (by kernel_rfl) rfl (fun K hK => ?_)
                  go_simp
                  have hal := (Below.refl W0.heap.size W0).alloc (Nat.le_refl _) (.cells #[.int .i64 z0, .int .i64 z1, .int .i64 z2, .int .i64 z3, .int .u32 z4] 24)
                  have hown4 := own_below hown (Nat.le_refl _) hal
                  have hsl4 := sl_new W0 24 [Value.int .i64 z0, Value.int .i64 z1, Value.int .i64 z2, Value.int .i64 z3, Value.int .u32 z4]
                  have hone : ∀ k, k < 1 * 5 → ([Value.int .i64 z0, Value.int .i64 z1, Value.int .i64 z2, Value.int .i64 z3, Value.int .u32 z4].getD k undef).oneCell' = true := fun k hk => by
                    rcases (by omega : k = 0 ∨ k = 1 ∨ k = 2 ∨ k = 3 ∨ k = 4) with rfl | rfl | rfl | rfl | rfl <;> rfl
                  have hb4 := step_below hbi hal
                  have hbase := hb4.size
                  have hH4 := hH
                  refine hK.out _ _ ⟨keepAt hal hbl0 hH4.1, keepAt hal hbl0 hH4.2.1, keepAt hal hbl0 hH4.2.2.1, keepAt hal hbl0 hH4.2.2.2⟩ (fun _ => ?_)
                  clear hK K
                  try simp only [Act.put, List.setIfInBounds_toArray, List.set_cons_zero, List.set_cons_succ]
                  refine onlyG (i := 31) (by kernel_rfl) rfl (fun K hK => ?_)
                  rw [if_pos (by rfl)]
                  refine wp_append_sl _ (.tmp 121) (.tmp 151) 39 rfl wo.heap.size 24 j0 _ 5 40 Tryd.underlying39 hj hj0 hj1 hj2 rfl (by omega) _ j _ rfl hown4 _ 1 _ (fun i => [Value.int .i64 z0, Value.int .i64 z1, Value.int .i64 z2, Value.int .i64 z3, Value.int .u32 z4].getD i undef) rfl hsl4 hone (by unfold maxLen; omega) (by omega) hbase ?_
                  intro v' w5 hown5 hg5 _
                  rw [range_getD [Value.int .i64 z0, Value.int .i64 z1, Value.int .i64 z2, Value.int .i64 z3, Value.int .u32 z4] (1 * 5) rfl] at hown5
                  have hb5 := below_own hb4 hown4 hg5 (Nat.le_refl _) (Nat.le_refl _)
                  have hIn : insL Z (q2 + 2) (j + 1) = insL Z (q2 + 2) j ++ [⟨z0, z1, z2, z3, z4⟩] := by
                    rw [insL_succ]
                    unfold insAt
                    rw [HQE.out.1, hz0, hz1, hz2, hz3, hz4]
                  have hown6 : w5.ownsRow wo.heap.size 24 5 v' (j + 1) ((insL Z (q2 + 2) (j + 1)).flatMap Ins.cells) := by
                    rw [hIn, List.flatMap_append]
                    exact hown5
                  have hk5 : ∀ j, j < len → w5.cell? ⟨b, off + j, none⟩ = some (.int .u8 (Z j)) := fun j hj => keepAt (step_below hIb hb5) hblt (HC.out.1 j hj)
                  refine hK.out _ _ ⟨by rw [hk5 q (by omega), hz0], by rw [hk5 (q + 1) (by omega), hz1], by rw [hk5 (q + 2) (by omega), hz2], by rw [hk5 (q + 3) (by omega), hz3]⟩ (fun _ => ?_)
                  clear hK K hk5 hIn hown5 hg5 hown4 hsl4 hone hbase hal hb4 hH4 hH hown hbi
                  have HW := Lib.hid (And.intro hown6 hb5)
                  clear hown6 hb5
                  try simp only [Act.put, List.setIfInBounds_toArray, List.set_cons_zero, List.set_cons_succ]
                  refine lastG (by kernel_rfl) rfl (by kernel_rfl) (fun K hK => ?_)
                  go_simp
                  refine hK.out _ _ ?_
                  clear hK K
                  try simp only [Act.put, List.setIfInBounds_toArray, List.set_cons_zero, List.set_cons_succ]
                  go_wp2_with fail
                  go_roundw
                  case rel => exact ⟨j + 1, by omega, by go_num, HW.out.1, HW.out.2⟩
                  case measure => simp [intOf]; omega
                · obtain rfl : nn = j := by omega
                  have hlj' : ¬ (nn : Int) < (nn : Int) := by omega
                  obtain ⟨hown, hbi⟩ := HW.out
                  have hob := HI.out.o3
                  have hI1 := HI.out.down hbi
                  clear HW HI k3
                  have ho := hI1.outer
                  rw [codesL_len] at ho
                  obtain ⟨uA, uc, rfl, _, _⟩ := own_sl ho
                  clear ho
                  have hal := (Below.refl wi.heap.size wi).alloc (Nat.le_refl _) (.cells #[.slice lA nn lc] 39)
                  have hI2 := hI1.down hal
                  have hown4 := hI2.outer
                  have hb2 := hI2.blk
                  have hsl4 := sl_new wi 39 [.slice lA nn lc]
                  have hone : ∀ k, k < 1 * 1 → ([Value.slice lA nn lc].getD k undef).oneCell' = true := fun k hk => by
                    obtain rfl : k = 0 := by omega
                    rfl
                  have hbase := hI2.o3
                  have p0 : wi.cell? ⟨pb, 0, none⟩ = some (.slice uA k uc) := (hI1.blk.cell 0).trans rfl
                  have HI1 := Lib.hid (And.intro hI1 hown)
                  clear hI1 hown hbi hal hI2
                  go_wp2_with (at_builtin; refine wpList_append_sl _ rfl (.tmp 154) (.tmp 156) 35 rfl (pb + 1) 39 i1 _ 1 24 Tryd.underlying35 ik ik0 ik1 ik2 rfl (by omega) _ (codesL Z (7 + 4 * m) k).length _ rfl hown4 _ 1 _ (fun i => [Value.slice lA nn lc].getD i undef) rfl hsl4 hone (by rw [codesL_len]; unfold maxLen; omega) (by rw [codesL_len]; omega) hbase ?_; intro v' w5 hown5 hg5 _; rw [range_getD [Value.slice lA nn lc] (1 * 1) rfl] at hown5; have hI5 := RfInv.next (Q := insL Z (q2 + 2) nn) HI1.out.1 (by rw [insL_len]; exact HI1.out.2) hob hown4 hg5 hown5; have hb5 := hb2.grow_own hown4 hg5 (by omega); have f0 := hb5.frozen 0; have q0 : w5.cell? ⟨pb, 0, none⟩ = some (.slice uA k uc) := (hb5.cell 0).trans rfl; obtain ⟨nA, nc, rfl, _, _⟩ := own_sl hown5; have HI := Lib.hid hI5; clear hown4 hown5 hg5 hb2 hI5 hb5 hsl4 hone)
                  go_roundw
                  case rel =>
                    have hcp : codePos Z (7 + 4 * m) (k + 1) = q2 + 2 + 8 * nn := by
                      show codeEnd Z (codePos Z (7 + 4 * m) k) = _
                      rw [HQ.out]
                      unfold codeEnd
                      rw [HNN.out]
                      rfl
                    have hco : codesL Z (7 + 4 * m) k ++ [insL Z (q2 + 2) nn] = codesL Z (7 + 4 * m) (k + 1) := by
                      rw [codesL_succ]
                      unfold codL
                      rw [HQ.out, HNN.out]
                      rfl
                    have h := HI.out
                    rw [hco] at h
                    exact ⟨k + 1, q2 + 2 + 8 * nn, _, _, _, by omega, by go_num, by go_num, hcp, h8, h⟩
                  case measure => simp [intOf]; omega
            · obtain ⟨rfl, rfl⟩ := rdO_short h3 HE.out (by have h := HM.out; rw [HNN.out, Int.toNat_natCast] at h; omega) HO.out
              have h8' : (len : Int) < (q2 : Int) + 2 + 8 * (nn : Int) := by omega
              clear k3
              have HF := Lib.hid hI.told
              obtain ⟨⟨x0, x1, x2⟩, ⟨f0, f1, f2⟩, ⟨y0, y1, y2⟩, _⟩ := hI.cells
              clear hI
              go_wp2_with fail
              refine bodyPost_ret (results_row_tmp2 rfl _ _ _ _ rfl (run_pg HF.out.1)) rfl ?_
              exact ⟨_, rfl, fun _ => rfl, fun h => absurd h (by decide), HF.out.2⟩
          · obtain ⟨rfl, rfl⟩ := rdO_short h3 HE.out (by have h := HM.out; omega) HO.out
            have h2' : (len : Int) < (q2 : Int) + 2 := by omega
            have HF := Lib.hid hI.told
            obtain ⟨⟨x0, x1, x2⟩, ⟨f0, f1, f2⟩, ⟨y0, y1, y2⟩, _⟩ := hI.cells
            clear hI
            go_wp2_with fail
            refine bodyPost_ret (results_row_tmp2 rfl _ _ _ _ rfl (run_pg HF.out.1)) rfl ?_
            exact ⟨_, rfl, fun _ => rfl, fun h => absurd h (by decide), HF.out.2⟩
        · obtain rfl : N = k := by omega
          have hlt' : ¬ (N : Int) < (N : Int) := by omega
          have hee : endZ Z = q2 := HN.out.2.2.2.1.trans HQ.out
          by_cases hq3 : q2 < len
          · have ho := rdO_long h3 HE.out (by omega) HO.out
            rw [hee] at ho
            obtain ⟨rfl, rfl⟩ := ho
            have hq' : (q2 : Int) < (len : Int) := by omega
            clear hee
            have HF := Lib.hid hI.told
            obtain ⟨⟨x0, x1, x2⟩, ⟨f0, f1, f2⟩, ⟨y0, y1, y2⟩, _⟩ := hI.cells
            clear hI
            go_wp2_with fail
            refine bodyPost_ret (results_row_tmp2 rfl _ _ _ _ rfl (run_pg HF.out.1)) rfl ?_
            exact ⟨_, rfl, fun _ => rfl, fun h => absurd h (by decide), HF.out.2⟩
          · obtain ⟨rfl, tt, jj, hC⟩ := rdO_form h3 HE.out (by omega) HO.out
            have hq' : ¬ (q2 : Int) < (len : Int) := by omega
            obtain ⟨p, e1, e2, e3, hrep, hok, hat⟩ := hI.prog (codesL_ok HC.out.2 _ _ (by rw [HQ.out]; exact hql)) (memL_ok HC.out.2 _ (by omega)) ⟨hr0, by omega⟩
            have hrd : Rep p (rdP Z len) := by
              have h1 := lists_rep (Z := Z)
              rw [HN.out.2.2.1, HN.out.1, HN.out.2.2.2.2, Int.toNat_natCast] at h1
              exact hrep.trans (h1.trans (st4_ok (Z := Z) (len := len) (by omega)).2.symm)
            have cC := refCheck_any p hok tt jj e (chk_rep hrd.symm hC) _ (hat wr fun h => h)
            subst e1 e2 e3
            have HI := Lib.hid hI
            have ho1 := hI.o1
            have ho2 := hI.o2
            obtain ⟨⟨x0, x1, x2⟩, ⟨f0, f1, f2⟩, ⟨y0, y1, y2⟩, ⟨b0, b1, b2⟩⟩ := hI.cells
            unfold Pg.val at cC
            have HX := Lib.hid (And.intro hrd (And.intro hok hat))
            have HCC := Lib.hid cC
            clear hrep hrd hok hat hC cC hI hee
            go_wp2_with fail
            refine HCC.out.mono ?_
            rintro r7 w7 ⟨rfl, hb7⟩
            have hI7 := HI.out.down hb7
            clear x0 x1 x2 f0 f1 f2 y0 y1 y2 b0 b1 b2 k3
            by_cases he : e = 0
            · subst he
              have hat7 : p.At (((w7.setCell ⟨w.heap.size, 0, none⟩ (.slice p.A p.n p.cap)).setCell ⟨w.heap.size, 1, none⟩ (.slice p.mA p.m p.mcap)).setCell ⟨w.heap.size, 2, none⟩ (.int .i64 p.room)) :=
                HX.out.2.2 _ fun hx => own_grown (own_grown (own_grown (own_below hx (Nat.le_refl _) hb7) (set_only _) (by omega)) (set_only _) (by omega)) (set_only _) (by omega)
              have HF := Lib.hid (And.intro (hI7.back.set3 (.slice p.A p.n p.cap) (.slice p.mA p.m p.mcap) (.int .i64 p.room)) (below_set3 hI7.below (Nat.le_refl _) (.slice p.A p.n p.cap) (.slice p.mA p.m p.mcap) (.int .i64 p.room)))
              obtain ⟨⟨x0, x1, x2⟩, ⟨f0, f1, f2⟩, _, ⟨b0, b1, b2⟩⟩ := hI7.cells
              have HA := Lib.hid hat7
              clear hI7 hat7 hb7
              go_wp2_with fail
              refine bodyPost_ret (results_row_tmp2 rfl _ _ _ _ rfl (run_pg HF.out.1)) rfl ?_
              exact ⟨_, rfl, fun h => absurd rfl h, fun _ => ⟨p, rfl, HX.out.1, HX.out.2.1, HA.out⟩, HF.out.2⟩
            · have hne : (e != 0) = true := by rw [bne_iff_ne]; exact he
              have HF := Lib.hid hI7.told
              obtain ⟨⟨x0, x1, x2⟩, ⟨f0, f1, f2⟩, ⟨y0, y1, y2⟩, _⟩ := hI7.cells
              clear hI7 hb7
              go_wp2_with fail
              refine bodyPost_ret (results_row_tmp2 rfl _ _ _ _ rfl (run_pg HF.out.1)) rfl ?_
              exact ⟨_, rfl, fun _ => rfl, fun h => absurd h he, HF.out.2⟩

theorem refRead_any (A : Option Addr) (len cap : Nat) (Z : Nat → Int) (hl : len ≤ 1000000) (w : World) (hsl : Sl w A len (fun i => .int .u8 (Z i))) (hz : ∀ i, i < len → 0 ≤ Z i ∧ Z i ≤ 255)
    (n e : Int) (hO : RdO Z len n e) : Calls Tryd.prog 29 #[.slice A len cap] w (RdPost Z len n e w) := by
  by_cases h3 : len < 3
  · obtain ⟨rfl, rfl⟩ := rdO_tiny h3 hO
    exact refRead_tiny A len cap Z h3 w
  · by_cases hh : headZ Z
    · exact refRead_main A len cap Z (by omega) hl w hsl hz hh n e hO
    · obtain ⟨rfl, rfl⟩ := rdO_head (by omega) hh hO
      exact refRead_head A len cap Z (by omega) w hsl hh
end Go.Proofs.YtlmhifnanhkcnaaDoor
