/- code.Read: what reading bytes answers. -/
import Derived.Test.YtjmnogpnjombgaaDoorCodePg
import Derived.Test.YtjmnogpnjombgaaDoorIsaChk
import Derived.Lib.Bytes
namespace Go.Proofs.YtjmnogpnjombgaaDoor
open Go.ChangeShapes Go.WideShapes Go.ChangeAt Go.RowKit Go.Deep
set_option linter.unusedVariables false
set_option maxRecDepth 100000
set_option linter.unusedSimpArgs false

theorem results_row_tmp2 {P : Program} {fn : Func} {p q q' : Tmp} {ty : TypeId} (h : fn.results = #[.cell p ty, .tmp q, .tmp q']) (tmps : Array Value) (w : World) (g : Nat) (v : Value)
    (hp : tmps.getD p undef = .pointer (some ⟨g, 0, none⟩)) (hr : (loadVar ty ⟨g, 0, none⟩).run P w = .ok v w) :
    (results fn tmps).run P w = .ok (.tuple #[v, tmps.getD q undef, tmps.getD q' undef]) w := by
  have hp' : tmps[p]?.getD undef = .pointer (some ⟨g, 0, none⟩) := by simpa using hp
  simp [results, h, hp', asAddr, hr]
theorem prog_info : (Tryd.prog.info? 63).map (fun i => (i.zero, i.size, i.bytes)) = some (some zeroPg, 3, 56) := by kernel_rfl
theorem code_info : (Tryd.prog.info? 26).map (fun i => (i.zero, i.size, i.bytes)) = some (some (.slice none 0 0), 1, 24) := by kernel_rfl
theorem run_pg {w : World} {g : Nat} {a b c : Value} (h : Blk w g 63 #[a, b, c]) : (loadVar 63 ⟨g, 0, none⟩).run Tryd.prog w = .ok (.agg #[a, b, c]) w := by
  have q0 := h.cell 0
  have q1 := h.cell 1
  have q2 := h.cell 2
  simp only [List.getElem?_toArray, List.getElem?_cons_zero, List.getElem?_cons_succ] at q0 q1 q2
  go_simp
theorem bytes_inj {xs ys : List Int} (hx : ∀ x ∈ xs, 0 ≤ x ∧ x ≤ 255) (hy : ∀ x ∈ ys, 0 ≤ x ∧ x ≤ 255) (h2 : Lib.bytesOf xs = Lib.bytesOf ys) : xs = ys := by
  unfold Lib.bytesOf at h2
  induction xs generalizing ys with
  | nil => cases ys with
    | nil => rfl
    | cons y ys => simp at h2
  | cons x xs ih => cases ys with
    | nil => simp at h2
    | cons y ys =>
      simp only [List.map_cons, List.cons.injEq] at h2
      have hxx := hx x (by simp)
      have hyy := hy y (by simp)
      have e := congrArg UInt8.toNat h2.1
      rw [UInt8.toNat_ofNat', UInt8.toNat_ofNat', Nat.mod_eq_of_lt (by omega), Nat.mod_eq_of_lt (by omega)] at e
      rw [ih (fun a ha => hx a (by simp [ha])) (fun a ha => hy a (by simp [ha])) h2.2, show x = y by omega]

/-- Bytes that can be read, as a string. -/
theorem conv_sl {w : World} {A : Option Addr} {L : List Int} {n cap : Nat} (hn : L.length = n) (h0 : 0 < n) (h : Sl w A n (fun i => .int .u8 (L.getD i 0))) :
    (convert 29 9 (.slice A n cap)).run Tryd.prog w = .ok (.string (strOfNums L)) w := by
  obtain ⟨b, off, rfl, hlt, hc⟩ := h h0
  exact run_convert_bytes_arg w 29 5 Tryd.underlying29 Tryd.underlying5 b off n cap L hn (fun i hi => hc i hi) 9 Tryd.underlying9

def RdPost (Z : Nat → Int) (len : Nat) (n e : Int) (w : World) (r : Ending) (w' : World) : Prop :=
  ∃ v, r = .returned (.tuple #[v, .int .i64 n, .int .i64 e]) ∧ (e ≠ 0 → v = zeroPg) ∧ (e = 0 → ∃ p : Pg, v = p.val ∧ Rep p (rdP Z len) ∧ p.Ok ∧ p.At w') ∧ Below w.heap.size w w'

theorem Blk.set3 {w : World} {g : Nat} {t : TypeId} {a b c : Value} (h : Blk w g t #[a, b, c]) (x y z : Value) : Blk (((w.setCell ⟨g, 0, none⟩ x).setCell ⟨g, 1, none⟩ y).setCell ⟨g, 2, none⟩ z) g t #[x, y, z] :=
  ((h.set_ 0 x).set_ 1 y).set_ 2 z
theorem below_set3 {w0 w : World} {B g : Nat} (h : Below B w0 w) (hg : B ≤ g) (x y z : Value) : Below B w0 (((w.setCell ⟨g, 0, none⟩ x).setCell ⟨g, 1, none⟩ y).setCell ⟨g, 2, none⟩ z) :=
  ((h.setCell (p := ⟨g, 0, none⟩) hg x).setCell (p := ⟨g, 1, none⟩) hg y).setCell (p := ⟨g, 2, none⟩) hg z

theorem read_tiny (A : Option Addr) (len cap : Nat) (Z : Nat → Int) (h3 : len < 3) (w : World) : Calls Tryd.prog 44 #[.slice A len cap] w (RdPost Z len len 2 w) := by
  have hB := (Below.refl w.heap.size w).alloc (Nat.le_refl _) (Obj.cells #[.slice none 0 0, .slice none 0 0, .int .i64 0] 63)
  have hq := Blk.new w 63 #[.slice none 0 0, .slice none 0 0, .int .i64 0]
  have f0 := hq.frozen 0
  have f1 := hq.frozen 1
  have f2 := hq.frozen 2
  have h3' : (len : Int) < 3 := by omega
  have HF := Lib.hid (And.intro hq hB)
  go_enter Tryd.func44, Tryd.ntmps44
  go_wp2_with fail
  refine bodyPost_ret (results_row_tmp2 rfl _ _ _ _ rfl (run_pg HF.out.1)) rfl ?_
  exact ⟨_, rfl, fun _ => rfl, fun h => absurd h (by decide), HF.out.2⟩

theorem read_head (A : Option Addr) (len cap : Nat) (Z : Nat → Int) (h3 : 3 ≤ len) (hlc : len ≤ cap) (w : World) (hsl : Sl w A len (fun i => .int .u8 (Z i))) (hz : ∀ i, i < len → 0 ≤ Z i ∧ Z i ≤ 255) (hh : ¬ headZ Z) :
    Calls Tryd.prog 44 #[.slice A len cap] w (RdPost Z len 0 3 w) := by
  have hB := (Below.refl w.heap.size w).alloc (Nat.le_refl _) (Obj.cells #[.slice none 0 0, .slice none 0 0, .int .i64 0] 63)
  have hq := Blk.new w 63 #[.slice none 0 0, .slice none 0 0, .int .i64 0]
  have f0 := hq.frozen 0
  have f1 := hq.frozen 1
  have f2 := hq.frozen 2
  have h3' : ¬ (len : Int) < 3 := by omega
  have h3c : (3 : Int) ≤ (cap : Int) := by omega
  obtain ⟨b, off, rfl, hlt, hc⟩ := hsl (by omega)
  have z0 := hz 0 (by omega)
  have z1 := hz 1 (by omega)
  have z2 := hz 2 (by omega)
  have hs3 : Sl (w.alloc (Obj.cells #[.slice none 0 0, .slice none 0 0, .int .i64 0] 63)) (some ⟨b, off, none⟩) 3 (fun i => .int .u8 ([Z 0, Z 1, Z 2].getD i 0)) := Sl.below (W := w) (fun _ => ⟨b, off, rfl, hlt, fun i hi => by
    rw [hc i (by omega)]
    rcases (by omega : i = 0 ∨ i = 1 ∨ i = 2) with rfl | rfl | rfl <;> rfl⟩) (Nat.le_refl _) hB
  have hcv := fun cap => conv_sl (L := [Z 0, Z 1, Z 2]) (n := 3) (cap := cap) rfl (by decide) hs3
  have hne : ((strOfNums [Z 0, Z 1, Z 2]).toList == [100, 108, 49]) = false := by
    rw [beq_eq_false_iff_ne]
    intro he
    rw [Lib.strOfNums_toList] at he
    have := bytes_inj (xs := [Z 0, Z 1, Z 2]) (ys := [100, 108, 49]) (by simp [z0, z1, z2]) (by simp) (he.trans (by decide +kernel))
    simp only [List.cons.injEq, and_true] at this
    exact hh this
  clear hc hsl hz z0 z1 z2 hs3 hh
  have HF := Lib.hid (And.intro hq hB)
  go_enter Tryd.func44, Tryd.ntmps44
  go_wp2_with fail
  refine bodyPost_ret (results_row_tmp2 rfl _ _ _ _ rfl (run_pg HF.out.1)) rfl ?_
  exact ⟨_, rfl, fun _ => rfl, fun h => absurd h (by decide), HF.out.2⟩

/-- What holds at each round of the codes' loop. -/
structure RdInv (w wr : World) (rb pb : Nat) (A : Option Addr) (len cap : Nat) (Z : Nat → Int) (s : Nat × Bool) (v vm : Value) (vs : List Value) (LL : List (List Ins)) (M : List Int) (room : Int) : Prop where
  rs : RS wr rb A len cap Z s
  vl : vs.length = LL.length
  blk : Blk wr pb 63 #[v, vm, .int .i64 room]
  outer : wr.ownsRow (pb + 1) 26 1 v LL.length vs
  inner : ∀ t, t < LL.length → wr.ownsRow (pb + 1) 54 5 (vs.getD t undef) (LL.getD t []).length ((LL.getD t []).flatMap Ins.cells)
  mem : wr.ownsRow (pb + 1) 22 1 vm M.length (M.map (Value.int .u32))
  back : Blk wr w.heap.size 63 #[.slice none 0 0, .slice none 0 0, .int .i64 0]
  below : Below w.heap.size w wr
  o1 : w.heap.size < rb
  o2 : rb < pb
  o3 : pb < wr.heap.size
  o4 : 0 < len → ∀ b off, A = some ⟨b, off, none⟩ → b < w.heap.size

theorem RdInv.drew {w wr : World} {rb pb : Nat} {A : Option Addr} {len cap : Nat} {Z : Nat → Int} {s : Nat × Bool} {v vm : Value} {vs : List Value} {LL : List (List Ins)} {M : List Int} {room : Int}
    (h : RdInv w wr rb pb A len cap Z s v vm vs LL M room) : RdInv w wr.drew rb pb A len cap Z s v vm vs LL M room :=
  ⟨⟨h.rs.rd, h.rs.le, h.rs.l, h.rs.sl, h.rs.z, h.rs.ne⟩, h.vl, h.blk, h.outer, h.inner, h.mem, h.back, h.below.drew, h.o1, h.o2, h.o3, h.o4⟩
theorem RdInv.next {w wr w3 w5 : World} {rb pb : Nat} {A : Option Addr} {len cap : Nat} {Z : Nat → Int} {s s2 : Nat × Bool} {v vm v2 v' : Value} {vs : List Value} {LL : List (List Ins)} {Q : List Ins} {M : List Int} {room : Int} {o : Obj}
    (h : RdInv w wr rb pb A len cap Z s v vm vs LL M room) (hrs2 : RS w3 rb A len cap Z s2) (hg2 : wr.grownBy w3 (some rb)) (hown2 : w3.ownsRow wr.heap.size 54 5 v2 Q.length (Q.flatMap Ins.cells))
    (hown4 : (w3.alloc o).ownsRow (pb + 1) 26 1 v LL.length vs) (hg5 : (w3.alloc o).grownBy w5 v.ownBlock) (hown5 : w5.ownsRow (pb + 1) 26 1 v' (LL.length + 1) (vs ++ [v2])) :
    RdInv w (w5.setCell ⟨pb, 0, none⟩ v') rb pb A len cap Z s2 v' vm (vs ++ [v2]) (LL ++ [Q]) M room := by
  have o1 := h.o1
  have o2 := h.o2
  have o3 := h.o3
  have hal := (Below.refl w3.heap.size w3).alloc (Nat.le_refl _) o
  have hset : w5.grownBy (w5.setCell ⟨pb, 0, none⟩ v') (some pb) := set_only _
  have h34 : w3.heap.size ≤ w5.heap.size := Nat.le_trans hal.size hg5.size
  have hA : 0 < len → ∀ b off, A = some ⟨b, off, none⟩ → b < pb + 1 := fun hn b off e => by have := h.o4 hn b off e; omega
  have row : ∀ {e : TypeId} {size n : Nat} {x : Value} {xs : List Value}, e ≠ 26 → w3.ownsRow (pb + 1) e size x n xs → (w5.setCell ⟨pb, 0, none⟩ v').ownsRow (pb + 1) e size x n xs :=
    fun hne hx => own_grown (own_apart (own_below hx (Nat.le_refl _) hal) hown4 hne hg5) hset (by omega)
  have hB3 := h.below.grown hg2 (by omega) (fun k e => by have := Option.some.inj e; omega)
  have hB5 := below_own (hB3.alloc hB3.size o) hown4 hg5 (by omega) (Nat.le_refl _)
  exact
    { rs := ((hrs2.below hal).grow_own hown4 hg5 (by omega) hA).other hset (fun e => by have := Option.some.inj e; omega) (fun hn b off e e2 => by have := h.o4 hn b off e; have := Option.some.inj e2; omega)
      vl := by rw [List.length_append, List.length_append, h.vl]; rfl
      blk := (((h.blk.grown hg2 (by intro e; have := Option.some.inj e; omega)).alloc o).grow_own hown4 hg5 (by omega)).set_ 0 v'
      outer := by rw [List.length_append]; exact own_grown hown5 hset (by omega)
      inner := fun t ht => by
        rcases getD_snoc LL Q [] t ht with ⟨h1, h2⟩ | ⟨h1, h2⟩
        · rw [h2]
          have hv : (vs ++ [v2]).getD t undef = vs.getD t undef := by
            have : t < vs.length := by rw [h.vl]; exact h1
            simp [List.getD_eq_getElem?_getD, List.getElem?_append_left this]
          rw [hv]
          exact row (by decide) (own_grown (h.inner t h1) hg2 (by omega))
        · rw [h2]
          have hv : (vs ++ [v2]).getD t undef = v2 := by
            have : t = vs.length := by rw [h.vl]; exact h1
            subst this
            simp [List.getD_eq_getElem?_getD]
          rw [hv]
          exact row (by decide) (own_base hown2 (by omega))
      mem := row (by decide) (own_grown h.mem hg2 (by omega))
      back := (((h.back.grown hg2 (by intro e; have := Option.some.inj e; omega)).alloc o).grow_own hown4 hg5 (by omega)).grown hset (by intro e; have := Option.some.inj e; omega)
      below := hB5.setCell (p := ⟨pb, 0, none⟩) (by show w.heap.size ≤ pb; omega) v'
      o1 := o1
      o2 := o2
      o3 := by
        have := hset.size
        have := hg2.size
        omega
      o4 := h.o4 }

theorem insOf_ok {Z : Nat → Int} {len : Nat} (hz : ∀ i, i < len → 0 ≤ Z i ∧ Z i ≤ 255) (s : Nat × Bool) : (insOf Z len s).Ok := by
  have r1 : ∀ s, 0 ≤ rval Z len 1 s ∧ rval Z len 1 s < 256 := fun s => rval_lt (size := 1) hz
  have r4 : ∀ s, 0 ≤ rval Z len 4 s ∧ rval Z len 4 s < 4294967296 := fun s => rval_lt (size := 4) hz
  unfold insOf
  constructor <;> dsimp only
  all_goals first | (have := r1 s; omega) | (have := r1 (rstep Z len 1 s); omega) | (have := r1 (rstep Z len 1 (rstep Z len 1 s)); omega) | (have := r1 (rstep Z len 1 (rstep Z len 1 (rstep Z len 1 s))); omega) | (have := r4 (rstep Z len 1 (rstep Z len 1 (rstep Z len 1 (rstep Z len 1 s)))); omega)
theorem il_ok {Z : Nat → Int} {len : Nat} (hz : ∀ i, i < len → 0 ≤ Z i ∧ Z i ≤ 255) : ∀ (k : Nat) (s : Nat × Bool), ∀ q ∈ il Z len k s, q.Ok
  | 0, _, q, h => by simp [il] at h
  | k + 1, s, q, h => by
    unfold il at h
    split at h
    · simp at h
    · rcases List.mem_cons.1 h with rfl | h
      · exact insOf_ok hz s
      · exact il_ok hz k _ q h
theorem pl_ok {Z : Nat → Int} {len : Nat} (hz : ∀ i, i < len → 0 ≤ Z i ∧ Z i ≤ 255) : ∀ (k : Nat) (s : Nat × Bool), ∀ l ∈ pl Z len k s, ∀ q ∈ l, q.Ok
  | 0, _, l, h => by simp [pl] at h
  | k + 1, s, l, h => by
    unfold pl at h
    split at h
    · simp at h
    · rcases List.mem_cons.1 h with rfl | h
      · exact il_ok hz _ _
      · exact pl_ok hz k _ l h
theorem wl_ok {Z : Nat → Int} {len : Nat} (hz : ∀ i, i < len → 0 ≤ Z i ∧ Z i ≤ 255) : ∀ (k : Nat) (s : Nat × Bool), ∀ z ∈ wl Z len k s, 0 ≤ z ∧ z ≤ 4294967295
  | 0, _, q, h => by simp [wl] at h
  | k + 1, s, q, h => by
    unfold wl at h
    split at h
    · simp at h
    · rcases List.mem_cons.1 h with rfl | h
      · have := rval_lt (size := 4) (s := s) hz
        omega
      · exact wl_ok hz k _ q h
/-- The codes that the slices vs tell. -/
def cdF (vs : List Value) (LL : List (List Ins)) (t : Nat) : Cd :=
  match vs.getD t undef with
  | .slice a _ c => ⟨a, (LL.getD t []).length, c, fun i => (LL.getD t []).getD i default⟩
  | _ => default
theorem RdInv.prog {w wr : World} {rb pb : Nat} {A : Option Addr} {len cap : Nat} {Z : Nat → Int} {s : Nat × Bool} {v vm : Value} {vs : List Value} {LL : List (List Ins)} {M : List Int} {room : Int}
    (h : RdInv w wr rb pb A len cap Z s v vm vs LL M room) (hins : ∀ l ∈ LL, ∀ q ∈ l, q.Ok) (hM : ∀ z ∈ M, 0 ≤ z ∧ z ≤ 4294967295) (hr : 0 ≤ room ∧ room ≤ 255) :
    ∃ p : Pg, v = .slice p.A p.n p.cap ∧ vm = .slice p.mA p.m p.mcap ∧ p.room = room ∧ Rep p (absOf LL M room) ∧ p.Ok ∧ ∀ W : World, (∀ {e : TypeId} {size n : Nat} {x : Value} {xs : List Value}, wr.ownsRow (pb + 1) e size x n xs → W.ownsRow (pb + 1) e size x n xs) → p.At W := by
  obtain ⟨uA, uc, rfl, hu1, hu2⟩ := own_cap h.outer
  obtain ⟨mA, mc, rfl, hm1, hm2⟩ := own_cap h.mem
  have hcd : ∀ t, t < LL.length → ∃ A c, vs.getD t undef = .slice A (LL.getD t []).length c ∧ cdF vs LL t = ⟨A, (LL.getD t []).length, c, fun i => (LL.getD t []).getD i default⟩ ∧ (LL.getD t []).length ≤ c ∧ c ≤ maxLen := by
    intro t ht
    obtain ⟨A1, c1, e1, hc1, hc2⟩ := own_cap (h.inner t ht)
    exact ⟨A1, c1, e1, by unfold cdF; rw [e1], hc1, hc2⟩
  refine ⟨⟨uA, LL.length, uc, cdF vs LL, mA, M.length, mc, fun i => M.getD i 0, room⟩, rfl, rfl, rfl, ?_, ?_, ?_⟩
  · exact ⟨rfl, rfl, rfl, fun t ht => by obtain ⟨A1, c1, _, e, _⟩ := hcd t ht; show (cdF vs LL t).len = _; rw [e]; rfl,
      fun t ht i hi => by obtain ⟨A1, c1, _, e, _⟩ := hcd t ht; show (cdF vs LL t).F i = _; rw [e]; rfl, fun i hi => rfl⟩
  · refine ⟨hu1, hu2, hm1, hm2, fun t ht => ?_, fun i hi => hM _ (getD_mem hi), by show _ ≤ room; omega, by show room ≤ _; omega⟩
    obtain ⟨A1, c1, _, e, h1, h2⟩ := hcd t ht
    show (cdF vs LL t).Ok
    rw [e]
    exact ⟨h1, h2, fun i hi => hins _ (getD_mem ht) _ (getD_mem hi)⟩
  · intro W f
    refine ⟨?_, fun t ht => ?_, ?_⟩
    · obtain ⟨A1, c1, e1, _, hs⟩ := own_sl (f h.outer)
      injection e1 with a1 _ _
      subst a1
      rw [Nat.mul_one] at hs
      exact hs.congr fun t ht => by
        obtain ⟨A1, c1, e1, e, _⟩ := hcd t ht
        show vs.getD t undef = (cdF vs LL t).val
        rw [e1, e]
        rfl
    · obtain ⟨A1, c1, e1, e, _, _⟩ := hcd t ht
      obtain ⟨A2, c2, e2, _, hs⟩ := own_sle Ins.cells (fun _ => rfl) default (LL.getD t []) (f (h.inner t ht))
      rw [e1] at e2
      injection e2 with a1 _ a3
      subst a1 a3
      show (cdF vs LL t).At W
      rw [e]
      exact hs
    · obtain ⟨A1, c1, e1, _, hs⟩ := own_sl (f h.mem)
      injection e1 with a1 _ _
      subst a1
      rw [Nat.mul_one] at hs
      exact hs.congr fun i hi => by simp [List.getD_eq_getElem?_getD, List.getElem?_eq_getElem hi]

set_option maxHeartbeats 2000000 in
theorem read_rest (A : Option Addr) (len cap : Nat) (Z : Nat → Int) (h3 : 3 ≤ len) (hlc : len ≤ cap) (hl : len ≤ 1000000) (w : World) (ht : Tab w) (hsl : Sl w A len (fun i => .int .u8 (Z i))) (hz : ∀ i, i < len → 0 ≤ Z i ∧ Z i ≤ 255) (hh : headZ Z)
    (n e : Int) (hO : RdO Z len n e) : Calls Tryd.prog 44 #[.slice A len cap] w (RdPost Z len n e w) := by
  have hB := (Below.refl w.heap.size w).alloc (Nat.le_refl _) (Obj.cells #[.slice none 0 0, .slice none 0 0, .int .i64 0] 63)
  have hq := Blk.new w 63 #[.slice none 0 0, .slice none 0 0, .int .i64 0]
  have h3' : ¬ (len : Int) < 3 := by omega
  have h3c : (3 : Int) ≤ (cap : Int) := by omega
  obtain ⟨b, off, rfl, hlt, hc⟩ := hsl (by omega)
  have HH := Lib.hid hh
  obtain ⟨e0, e1, e2⟩ := hh
  have hs3 : Sl (w.alloc (Obj.cells #[.slice none 0 0, .slice none 0 0, .int .i64 0] 63)) (some ⟨b, off, none⟩) 3 (fun i => .int .u8 (([100, 108, 49] : List Int).getD i 0)) := Sl.below (W := w) (fun _ => ⟨b, off, rfl, hlt, fun i hi => by
    rw [hc i (by omega)]
    rcases (by omega : i = 0 ∨ i = 1 ∨ i = 2) with rfl | rfl | rfl
    · exact congrArg (fun z => some (Value.int .u8 z)) e0
    · exact congrArg (fun z => some (Value.int .u8 z)) e1
    · exact congrArg (fun z => some (Value.int .u8 z)) e2⟩) (Nat.le_refl _) hB
  have hcv := fun cap => conv_sl (L := [100, 108, 49]) (n := 3) (cap := cap) rfl (by decide) hs3
  have hne : ((strOfNums [100, 108, 49]).toList == [100, 108, 49]) = true := by decide +kernel
  have hB2 := hB.alloc hB.size (Obj.cells #[.slice (some ⟨b, off, none⟩) len cap, .int .i64 3, .bool false] 141)
  have hq2 := hq.alloc (Obj.cells #[.slice (some ⟨b, off, none⟩) len cap, .int .i64 3, .bool false] 141)
  have hRd := Blk.new2 w (Obj.cells #[.slice none 0 0, .slice none 0 0, .int .i64 0] 63) 141 #[.slice (some ⟨b, off, none⟩) len cap, .int .i64 3, .bool false]
  have hRS : RS ((w.alloc (Obj.cells #[.slice none 0 0, .slice none 0 0, .int .i64 0] 63)).alloc (Obj.cells #[.slice (some ⟨b, off, none⟩) len cap, .int .i64 3, .bool false] 141)) (w.heap.size + 1) (some ⟨b, off, none⟩) len cap Z (3, false) :=
    ⟨hRd, h3, hl, hsl.below (Nat.le_refl _) hB2, hz, fun _ b' off' e' => by injection e' with e'; injection e' with e1 _; omega⟩
  have cN := small1_rs hRS
  have hNr := rval_lt (size := 1) (s := (3, false)) hz
  obtain ⟨N, hN⟩ : ∃ N : Nat, rval Z len 1 (3, false) = N := ⟨(rval Z len 1 (3, false)).toNat, by omega⟩
  rw [hN] at cN hNr
  have hN2 : N ≤ 255 := by omega
  have hrdN : rdN Z len = N := by unfold rdN; rw [hN]; rfl
  have hr1 := rval_lt (size := 1) (s := st1 Z len) hz
  rw [show rstep Z len 1 (3, false) = st1 Z len from rfl] at cN
  obtain ⟨room, hroom⟩ : ∃ room, rval Z len 1 (st1 Z len) = room := ⟨_, rfl⟩
  rw [hroom] at hr1
  have HE := Lib.hid (And.intro hN (And.intro hrdN hroom))
  have HO := Lib.hid hO
  have HZ := Lib.hid hz
  clear hc hz hs3 hO hN hrdN hroom e0 e1 e2 hNr hsl hRd hRS hB hq
  go_enter Tryd.func44, Tryd.ntmps44
  go_wp2_with fail
  refine cN.mono ?_
  rintro r1 w1 ⟨rfl, h1, hg1⟩
  clear cN hcv hne
  have c2 := small1_rs h1
  rw [show rstep Z len 1 (st1 Z len) = st2 Z len from rfl, HE.out.2.2] at c2
  have hq3 := hq2.grown hg1 (by simp)
  have hB3 := hB2.grown hg1 hB2.size (fun k e => by have := Option.some.inj e; omega)
  clear hB2 hq2 hg1 h1
  go_wp2_with fail
  refine c2.mono ?_
  rintro r2 w2 ⟨rfl, h2, hg2⟩
  have hq4 := hq3.grown hg2 (by simp)
  have hB4 := hB3.grown hg2 hB3.size (fun k e => by have := Option.some.inj e; omega)
  have hrl := Blk.lt h2.rd
  have h5 := h2.below ((Below.refl _ _).alloc (Nat.le_refl _) (.cells #[.slice none 0 0, .slice none 0 0, .int .i64 room] 63))
  have hq5 := hq4.alloc (.cells #[.slice none 0 0, .slice none 0 0, .int .i64 room] 63)
  have hB5 := hB4.alloc hB4.size (.cells #[.slice none 0 0, .slice none 0 0, .int .i64 room] 63)
  have hp5 := Blk.new w2 63 #[.slice none 0 0, .slice none 0 0, .int .i64 room]
  have hsz5 : (w2.alloc (.cells #[.slice none 0 0, .slice none 0 0, .int .i64 room] 63)).heap.size = w2.heap.size + 1 := by simp
  clear hB3 hq3 hg2 h2 c2 hq4 hB4
  go_wp2_with fail
  refine (words_rs _ _ _ _ _ _ _ h5).mono ?_
  rintro r6 w6 ⟨vm, rfl, hm6, h6, hg6⟩
  rw [show wordsS Z len (st2 Z len) = st3 Z len from rfl] at h6
  have hq6 := hq5.grown hg6 (by simp)
  have hB6 := hB5.grown hg6 hB5.size (fun k e => by have := Option.some.inj e; omega)
  have hp6 := hp5.grown hg6 (by intro e; have := Option.some.inj e; omega)
  have f1 := hp6.frozen 1
  have q1 := hp6.cell 1
  simp only [List.getElem?_toArray, List.getElem?_cons_zero, List.getElem?_cons_succ] at q1
  rw [hsz5] at hm6
  obtain ⟨mA, mc, rfl, _, _⟩ := own_sl hm6
  have hl6 := hp6.lt
  have hg7 : w6.grownBy (w6.setCell ⟨w2.heap.size, 1, none⟩ (.slice mA (wordsL Z len (st2 Z len)).length mc)) (some w2.heap.size) := set_only _
  have hI : RdInv w (w6.setCell ⟨w2.heap.size, 1, none⟩ (.slice mA (wordsL Z len (st2 Z len)).length mc)) (w.heap.size + 1) w2.heap.size (some ⟨b, off, none⟩) len cap Z (st3 Z len) (.slice none 0 0) (.slice mA (wordsL Z len (st2 Z len)).length mc) [] [] (wordsL Z len (st2 Z len)) room :=
    { rs := h6.other hg7 (fun e => by have := Option.some.inj e; omega) (fun _ b' off' e' e => by injection e' with e'; injection e' with e1 _; have := Option.some.inj e; omega)
      vl := rfl
      blk := hp6.set_ 1 _
      outer := ⟨rfl, .inl ⟨rfl, rfl⟩⟩
      inner := fun t ht => absurd ht (by simp)
      mem := own_grown hm6 hg7 (by omega)
      back := hq6.grown hg7 (fun e => by have := Option.some.inj e; omega)
      below := hB6.setCell (p := ⟨w2.heap.size, 1, none⟩) (by show w.heap.size ≤ w2.heap.size; omega) _
      o1 := by omega
      o2 := by omega
      o3 := Nat.lt_of_lt_of_le hl6 hg7.size
      o4 := fun _ b' off' e' => by injection e' with e'; injection e' with e1 _; omega }
  have HI := Lib.hid hI
  clear hg7 h6 hm6 hq6 hB6 hI
  go_wp2_with fail
  have hI := HI.out
  clear HI hp6 q1 f1 hl6
  obtain ⟨M, hM⟩ : ∃ M, wordsL Z len (st2 Z len) = M := ⟨_, rfl⟩
  rw [hM] at hI ⊢
  have HM := Lib.hid hM
  clear hM
  obtain ⟨wL, hwL⟩ : ∃ wL, w6.setCell ⟨w2.heap.size, 1, none⟩ (.slice mA M.length mc) = wL := ⟨_, rfl⟩
  rw [hwL] at hI ⊢
  clear hwL
  obtain ⟨pb, hpb⟩ : ∃ pb, w2.heap.size = pb := ⟨_, rfl⟩
  rw [hpb] at hI ⊢
  clear hpb hrl
  obtain ⟨rb, hrb⟩ : ∃ rb, w.heap.size + 1 = rb := ⟨_, rfl⟩
  rw [hrb] at hI ⊢
  clear hrb
  obtain ⟨i0, hi, hy0, hy1, hy2⟩ := info_parts code_info
  go_loopw [6] (fun v wr => ∃ (k : Nat) (s : Nat × Bool) (u : Value) (vs : List Value) (LL : List (List Ins)), v = .int .i64 k ∧ LL.length + k ≤ N ∧ RdInv w wr rb pb (some ⟨b, off, none⟩) len cap Z s u (.slice mA M.length mc) vs LL M room ∧
    LL ++ pl Z len k s = pl Z len N (st3 Z len) ∧ ps Z len k s = ps Z len N (st3 Z len)) (fun v _ => (intOf v).toNat)
  case atStart => exact ⟨N, st3 Z len, _, [], [], rfl, by simp, hI, rfl, rfl⟩
  case round =>
    clear hI
    obtain ⟨k, ⟨sa, sb⟩, u, vs, LL, rfl, hk, hI, hL, hS⟩ := hrel
    have c2 := Blk.cell hI.rs.rd 2
    simp only [List.getElem?_toArray, List.getElem?_cons_zero, List.getElem?_cons_succ] at c2
    by_cases hgo : 0 < k ∧ sb = false
    · obtain ⟨hk1, rfl⟩ := hgo
      obtain ⟨k, rfl⟩ : ∃ j, k = j + 1 := ⟨k - 1, by omega⟩
      have hk0 : (0 : Int) < ((k + 1 : Nat) : Int) := by omega
      obtain ⟨uA, uc, rfl, _, _⟩ := own_sl hI.outer
      obtain ⟨s2, hs2⟩ : ∃ s2, codeS Z len (sa, false) = s2 := ⟨_, rfl⟩
      obtain ⟨Q, hQ⟩ : ∃ Q, codeL Z len (sa, false) = Q := ⟨_, rfl⟩
      simp only [pl, ps, Bool.false_eq_true, if_false, hs2, hQ] at hL hS
      have HL := Lib.hid (And.intro hL hS)
      have HI := Lib.hid hI
      have HQ := Lib.hid (And.intro hs2 hQ)
      clear hL hS hI hs2 hQ
      go_upto_region 11 with fail
      clear c2
      obtain ⟨hs2, hQ⟩ := HQ.out
      refine startG (fun W' => W'.cell? ⟨pb, 0, none⟩ = some (.slice uA LL.length uc)) 6 (by kernel_rfl) ?_
      have hI := HI.out.drew
      clear HI
      generalize wr.drew = W0 at hI ⊢
      have hH : W0.cell? ⟨pb, 0, none⟩ = some (.slice uA LL.length uc) := (hI.blk.cell 0).trans rfl
      have c4 := code_rs rb (some ⟨b, off, none⟩) len cap (sa, false) Z W0 hI.rs
      rw [hs2, hQ] at c4
      try simp only [Act.put, List.setIfInBounds_toArray, List.set_cons_zero, List.set_cons_succ]
      refine takeG (i := 0) (v := .pointer (some ⟨pb, 0, none⟩)) rfl (by kernel_rfl) (by kernel_rfl) (by kernel_rfl) (by kernel_rfl) (fun _ _ _ h => h) (Or.inl ⟨by rfl, fun W hW => by go_simp⟩) hH ?_
      try simp only [Act.put, List.setIfInBounds_toArray, List.set_cons_zero, List.set_cons_succ]
      refine takeG (i := 1) (v := .slice uA LL.length uc) rfl (by kernel_rfl) (by kernel_rfl) (by kernel_rfl) (by kernel_rfl) (fun _ _ _ h => h) (Or.inl ⟨by rfl, fun W hW => by go_simp⟩) hH ?_
      try simp only [Act.put, List.setIfInBounds_toArray, List.set_cons_zero, List.set_cons_succ]
      refine onlyG (i := 2) (by kernel_rfl) rfl (fun K hK => ?_)
      go_simp
      refine c4.mono ?_
      rintro e3 w3 ⟨v2, rfl, hown2, hrs2, hg2⟩
      obtain ⟨cA, cc, rfl, _, _⟩ := own_sl hown2
      go_wp2_with fail
      have hb3 := hI.blk.grown hg2 (by intro e; have := Option.some.inj e; have := hI.o2; omega)
      refine hK.out _ _ ((hb3.cell 0).trans rfl) (fun _ => ?_)
      clear hK K c4
      try simp only [Act.put, List.setIfInBounds_toArray, List.set_cons_zero, List.set_cons_succ]
      refine onlyG (i := 3) (by kernel_rfl) rfl (fun K hK => ?_)
      go_simp
      have hb4 := hb3.alloc (.cells #[.slice cA Q.length cc] 26)
      have hown4 := own_below (own_grown hI.outer hg2 (by have := hI.o2; omega)) (Nat.le_refl _) ((Below.refl w3.heap.size w3).alloc (Nat.le_refl _) (.cells #[.slice cA Q.length cc] 26))
      have hsl4 := sl_new w3 26 [.slice cA Q.length cc]
      have hone : ∀ k, k < 1 * 1 → ([Value.slice cA Q.length cc].getD k undef).oneCell' = true := fun k hk => by
        obtain rfl : k = 0 := by omega
        rfl
      have hbase : pb + 1 ≤ (w3.alloc (.cells #[.slice cA Q.length cc] 26)).heap.size := by have := hI.o3; have := hg2.size; simp; omega
      refine hK.out _ _ ((hb4.cell 0).trans rfl) (fun _ => ?_)
      clear hK K
      try simp only [Act.put, List.setIfInBounds_toArray, List.set_cons_zero, List.set_cons_succ]
      refine onlyG (i := 4) (by kernel_rfl) rfl (fun K hK => ?_)
      rw [if_pos (by rfl)]
      refine wp_append_sl _ (.tmp 39) (.tmp 41) 34 rfl (pb + 1) 26 i0 _ 1 24 Tryd.underlying34 hi hy0 hy1 hy2 rfl (by omega) _ LL.length _ rfl hown4 _ 1 _ (fun i => [Value.slice cA Q.length cc].getD i undef) rfl hsl4 hone (by unfold maxLen; omega) (by omega) hbase ?_
      intro v' w5 hown5 hg5 _
      rw [range_getD [Value.slice cA Q.length cc] (1 * 1) rfl] at hown5
      have hI5 := hI.next hrs2 hg2 hown2 hown4 hg5 hown5
      obtain ⟨nA, nc, rfl, _, _⟩ := own_sl hown5
      have hb5 := hb4.grow_own hown4 hg5 (by omega)
      have f0 := hb5.frozen 0
      have q0 := (hb5.cell 0).trans rfl
      refine hK.out _ _ q0 (fun _ => ?_)
      clear hK K hb3 hb4 hown4 hsl4 hone hbase hg5 hown5 hown2 hrs2 hg2 hI hb5
      have HI := Lib.hid hI5
      clear hI5
      try simp only [Act.put, List.setIfInBounds_toArray, List.set_cons_zero, List.set_cons_succ]
      refine takeG0 (i := 5) (v := .pointer (some ⟨pb, 0, none⟩)) rfl (by kernel_rfl) (by kernel_rfl) (by kernel_rfl) (by kernel_rfl) (fun _ _ _ h => h) (Or.inl ⟨by rfl, fun W hW => by go_simp⟩) q0 ?_
      try simp only [Act.put, List.setIfInBounds_toArray, List.set_cons_zero, List.set_cons_succ]
      refine lastG (by kernel_rfl) rfl (by kernel_rfl) (fun K hK => ?_)
      go_simp
      refine hK.out _ _ ?_
      clear hK K
      try simp only [Act.put, List.setIfInBounds_toArray, List.set_cons_zero, List.set_cons_succ]
      go_wp2_with fail
      go_roundw
      case rel =>
        refine ⟨k, s2, _, _, LL ++ [Q], by go_num, by rw [List.length_append]; simp; omega, HI.out, ?_, HL.out.2⟩
        rw [List.append_assoc]; exact HL.out.1
      case measure => simp [intOf]
    · have hend : LL = pl Z len N (st3 Z len) ∧ (sa, sb) = st4 Z len := by
        unfold st4
        rw [HE.out.2.1]
        rcases k with _ | k
        · simp only [pl, ps, List.append_nil] at hL hS
          exact ⟨hL, hS⟩
        · have hsb : sb = true := by
            cases sb
            · exact absurd ⟨by omega, rfl⟩ hgo
            · rfl
          subst hsb
          simp only [pl, ps, if_true, List.append_nil] at hL hS
          exact ⟨hL, hS⟩
      obtain ⟨hLe, hSe⟩ := hend
      have ho1 := hI.o1
      have ho2 := hI.o2
      obtain ⟨p, e1, e2, e3, hrep, hok, hat⟩ := hI.prog (by rw [hLe]; exact pl_ok HZ.out N _) (by rw [← HM.out]; unfold wordsL; exact wl_ok HZ.out _ _) (by omega)
      have hrep : Rep p (rdP Z len) := by
        unfold rdP
        rw [HE.out.2.1, ← hLe, HM.out, HE.out.2.2]
        exact hrep
      have hblk := hI.blk
      rw [e1, e2, ← e3] at hblk
      have hbk := hI.back
      have c1 := Blk.cell hI.rs.rd 1
      have q0 := hbk.cell 0
      have q1 := hbk.cell 1
      have q2 := hbk.cell 2
      have f0 := hbk.frozen 0
      have f1 := hbk.frozen 1
      have f2 := hbk.frozen 2
      simp only [List.getElem?_toArray, List.getElem?_cons_zero, List.getElem?_cons_succ] at c1 q0 q1 q2
      have hle : sa ≤ len := hI.rs.le
      have hB := hI.below
      have HL := Lib.hid (And.intro hSe (And.intro hrep (And.intro hok (And.intro hat hblk))))
      clear hLe hSe e1 e2 e3 hrep hok hat hblk hL hS hI
      cases HO.out with
      | tiny h => omega
      | head _ h => exact absurd HH.out h
      | short _ _ hsh =>
        obtain rfl : sb = true := by rw [← HL.out.1] at hsh; exact hsh
        have HF := Lib.hid (And.intro (hbk.set3 (.slice none 0 0) (.slice none 0 0) (.int .i64 0)) (below_set3 hB (Nat.le_refl _) (.slice none 0 0) (.slice none 0 0) (.int .i64 0)))
        clear hbk hB
        by_cases hk0 : (0 : Int) < (k : Int)
        all_goals
          go_wp2_with fail
          refine bodyPost_ret (results_row_tmp2 rfl _ _ _ _ rfl (run_pg HF.out.1)) rfl ?_
          exact ⟨_, rfl, fun _ => rfl, fun h => absurd h (by decide), HF.out.2⟩
      | long _ _ hsh hlong =>
        rw [← HL.out.1] at hsh hlong
        obtain rfl : sb = false := hsh
        obtain rfl : k = 0 := by
          rcases k with _ | k
          · rfl
          · exact absurd ⟨by omega, rfl⟩ hgo
        have hk0 : ¬ (0 : Int) < ((0 : Nat) : Int) := by omega
        have hlt5 : (sa : Int) < (len : Int) := by simp only at hlong; omega
        have HF := Lib.hid (And.intro (Blk.set3 (Blk.drew hbk) (.slice none 0 0) (.slice none 0 0) (.int .i64 0)) (below_set3 hB.drew (Nat.le_refl _) (.slice none 0 0) (.slice none 0 0) (.int .i64 0)))
        clear hbk hB hlong
        go_upto_region 15 with fail
        go_region
        go_wp2_with fail
        refine bodyPost_ret (results_row_tmp2 rfl _ _ _ _ rfl (run_pg HF.out.1)) rfl ?_
        exact ⟨_, by rw [← HL.out.1]; rfl, fun _ => rfl, fun h => absurd h (by decide), HF.out.2⟩
      | form t j e _ _ hsh hge hck =>
        obtain ⟨hSe, hrep, hok, hat, hblk⟩ := HL.out
        rw [← hSe] at hsh hge
        obtain rfl : sb = false := hsh
        obtain rfl : k = 0 := by
          rcases k with _ | k
          · rfl
          · exact absurd ⟨by omega, rfl⟩ hgo
        have hk0 : ¬ (0 : Int) < ((0 : Nat) : Int) := by omega
        have hlt5 : ¬ (sa : Int) < (len : Int) := by simp only at hge; omega
        have b0 := hblk.cell 0
        have b1 := hblk.cell 1
        have b2 := hblk.cell 2
        simp only [List.getElem?_toArray, List.getElem?_cons_zero, List.getElem?_cons_succ] at b0 b1 b2
        have cC := check_any p hok t j e (chk_rep hrep.symm hck) _ (ht.step hB) (hat _ id)
        unfold Pg.val at cC
        have HX := Lib.hid (And.intro hrep (And.intro hok (And.intro hat hblk)))
        have HC := Lib.hid cC
        clear hrep hok hat hblk hSe HL hge hck cC
        go_wp2_with fail
        refine HC.out.mono ?_
        rintro r7 w7 ⟨rfl, hb7⟩
        have hB7 := step_below hB hb7
        obtain ⟨hrep, hok, hat, hblk⟩ := HX.out
        have hbk7 := hbk.below hb7 hbk.lt
        have hblk7 := hblk.below hb7 hblk.lt
        have hat7 : p.At (((w7.setCell ⟨w.heap.size, 0, none⟩ (.slice p.A p.n p.cap)).setCell ⟨w.heap.size, 1, none⟩ (.slice p.mA p.m p.mcap)).setCell ⟨w.heap.size, 2, none⟩ (.int .i64 p.room)) :=
          hat _ fun hx => own_grown (own_grown (own_grown (own_below hx (Nat.le_refl _) hb7) (set_only _) (by omega)) (set_only _) (by omega)) (set_only _) (by omega)
        clear c1 c2 q0 q1 q2 f0 f1 f2 b0 b1 b2 hblk hat hbk HC HX hb7
        have q0 := hbk7.cell 0
        have q1 := hbk7.cell 1
        have q2 := hbk7.cell 2
        have f0 := hbk7.frozen 0
        have f1 := hbk7.frozen 1
        have f2 := hbk7.frozen 2
        have b0 := hblk7.cell 0
        have b1 := hblk7.cell 1
        have b2 := hblk7.cell 2
        simp only [List.getElem?_toArray, List.getElem?_cons_zero, List.getElem?_cons_succ] at q0 q1 q2 b0 b1 b2
        by_cases he : e = 0
        · have hne : (e != 0) = false := by simp [he]
          have hB8 := below_set3 hB7 (Nat.le_refl _) (.slice p.A p.n p.cap) (.slice p.mA p.m p.mcap) (.int .i64 p.room)
          have hd := below_set3 (Below.refl w.heap.size w7) (Nat.le_refl _) (.slice p.A p.n p.cap) (.slice p.mA p.m p.mcap) (.int .i64 p.room)
          have HF := Lib.hid (And.intro (hbk7.set3 (.slice p.A p.n p.cap) (.slice p.mA p.m p.mcap) (.int .i64 p.room)) hB8)
          clear hB8 hd hbk7 hblk7 hB7 hB
          have HX := Lib.hid (And.intro hrep (And.intro hok hat7))
          clear hrep hok hat7
          go_wp2_with fail
          refine bodyPost_ret (results_row_tmp2 rfl _ _ _ _ rfl (run_pg HF.out.1)) rfl ?_
          refine ⟨_, by rw [he]; rfl, fun h => absurd he h, fun _ => ⟨p, rfl, HX.out.1, HX.out.2.1, HX.out.2.2⟩, HF.out.2⟩
        · have hne : (e != 0) = true := by rw [bne_iff_ne]; exact he
          have HF := Lib.hid (And.intro (hbk7.set3 (.slice none 0 0) (.slice none 0 0) (.int .i64 0)) (below_set3 hB7 (Nat.le_refl _) (.slice none 0 0) (.slice none 0 0) (.int .i64 0)))
          clear hbk7 hblk7 hat7 hB7 hB hrep hok
          go_wp2_with fail
          refine bodyPost_ret (results_row_tmp2 rfl _ _ _ _ rfl (run_pg HF.out.1)) rfl ?_
          exact ⟨_, rfl, fun _ => rfl, fun h => absurd h he, HF.out.2⟩

theorem read_any (A : Option Addr) (len cap : Nat) (Z : Nat → Int) (hlc : len ≤ cap) (hl : len ≤ 1000000) (w : World) (ht : Tab w) (hsl : Sl w A len (fun i => .int .u8 (Z i))) (hz : ∀ i, i < len → 0 ≤ Z i ∧ Z i ≤ 255)
    (n e : Int) (hO : RdO Z len n e) : Calls Tryd.prog 44 #[.slice A len cap] w (RdPost Z len n e w) := by
  by_cases h3 : len < 3
  · cases hO with
    | tiny _ => exact read_tiny A len cap Z h3 w
    | head h _ => omega
    | short h _ _ => omega
    | long h _ _ _ => omega
    | form t j e h _ _ _ _ => omega
  · by_cases hh : headZ Z
    · exact read_rest A len cap Z (by omega) hlc hl w ht hsl hz hh n e hO
    · cases hO with
      | tiny h => exact absurd h h3
      | head h _ => exact read_head A len cap Z h hlc w hsl hz hh
      | short _ h _ => exact absurd h hh
      | long _ h _ _ => exact absurd h hh
      | form t j e _ h _ _ _ => exact absurd h hh
end Go.Proofs.YtjmnogpnjombgaaDoor
